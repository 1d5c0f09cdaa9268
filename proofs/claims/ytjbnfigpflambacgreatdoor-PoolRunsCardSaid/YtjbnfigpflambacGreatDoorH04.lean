/- Plain laws of the model. Copy between rows of elements of several cells. Conditions: those of each lemma. -/
import Derived.OrdersHeld
import Derived.Deep.RegionHeld3
import Derived.Below
import Derived.Laws.CopyRow
import Derived.Laws.IdiomCopy
import Derived.Laws.AppendOwn
import Derived.Lib.AppendZerosOnto
import Derived.Lib.Overlaps
import Derived.Tactics
namespace Go.Proofs.YtjbnfigpflambacGreatDoor
set_option maxRecDepth 100000
set_option maxHeartbeats 16000000
open Go.RowKit
def Calm(P:Program){α:Type}(m:Sem α):Prop:=
 ∀w x u,m.run P w= .ok x u→w.heap.size≤u.heap.size∧(u.heap.size=w.heap.size→u=w∧∀w',Below w.heap.size w w'→m.run P w'= .ok x w')
section
variable {P:Program}{α β:Type}
theorem Calm.pure(x:α):Calm P (Pure.pure x:Sem α):=by
 intro w y u h;injection h with h1 h2;subst h1 h2;exact⟨Nat.le_refl _,fun _=>⟨rfl,fun _ _=>rfl⟩⟩
theorem Calm.bind{m:Sem α}{f:α→Sem β}(hm:Calm P m)(hf: ∀x,Calm P (f x)):Calm P (m>>=f):=by
 intro w y u h;rw[Sem.run_bind]at h;cases hr:m.run P w with
 |halt e v=>rw[hr]at h;cases h
 |ok x v=>
  rw[hr,Result.andThen_ok]at h;obtain⟨a1,a2⟩:=hm w x v hr;obtain⟨b1,b2⟩:=hf x v y u h;refine⟨Nat.le_trans a1 b1,fun e=>?_⟩;obtain⟨rfl,a3⟩:=a2 (by omega)
  obtain⟨rfl,b3⟩:=b2 (by omega)
  refine⟨rfl,fun w' hw=>?_⟩;rw[Sem.run_bind,a3 w' hw,Result.andThen_ok];exact b3 w' hw
theorem Calm.never{m:Sem α}(h: ∀w x u,m.run P w≠.ok x u):Calm P m:=fun w x u e=>absurd e (h w x u)
theorem Calm.halt(e:Halt):Calm P (.halt e:Sem α):=.never fun _ _ _ h=>by cases h
theorem Calm.stuck(s:String):Calm P (Go.stuck s:Sem α):=.halt _
theorem Calm.unsupported(s:Unsupported):Calm P (Go.unsupported s:Sem α):=.halt _
theorem Calm.program:Calm P Go.program:=by
 intro w y u h;injection h with h1 h2;subst h1 h2;exact⟨Nat.le_refl _,fun _=>⟨rfl,fun _ _=>rfl⟩⟩
theorem Calm.program_bind{f:Program→Sem α}(h:Calm P (f P)):Calm P (Go.program>>=f):=h
theorem seen_same{w w':World}{p:Program}{at_:Addr}{u:TypeId}{k:Addr}{b:Bool}(hb:Below w.heap.size w w'){r}(h:w.seen p at_ u k b= .ok r):w'.seen p at_ u k b= .ok r:=by
 by_cases hlt:at_.block<w.heap.size
 ·unfold World.seen at h⊢;rw[hb.block _ hlt];exact h
 ·exfalso;have hn:w.heap[at_.block]? =none:=Array.getElem?_eq_none (by omega)
  unfold World.seen at h;rw[hn]at h;revert h
  simp only[bind,Except.bind];repeat' split
  all_goals simp_all
theorem far_same{w w':World}{p:Program}{a:Addr}{b:Bool}(hb:Below w.heap.size w w'){r}(h:w.farLoad p a b= .ok r):a.block<w.heap.size∧w'.farLoad p a b= .ok r:=by
 have hlt:a.block<w.heap.size:=by
  rcases Nat.lt_or_ge a.block w.heap.size with h1|h1
  ·exact h1
  ·unfold World.farLoad at h;rw[Array.getElem?_eq_none h1]at h;cases h
 refine⟨hlt,?_⟩;unfold World.farLoad at h⊢;rw[hb.block _ hlt];split at h
 ·rename_i at_ u hv;unfold World.viewLoad at h⊢;cases hs:w.seen p at_ u a b with
  |error e=>rw[hs]at h;simp[bind,Except.bind]at h
  |ok q=>
   rw[hs]at h;rw[seen_same hb hs];exact h
 ·cases h
theorem Calm.load(a:Addr)(m:Mode):Calm P (Go.load a m):=by
 intro w y u h;unfold Go.load at h;rw[Sem.run]at h;cases hc:w.cell? a with
 |some v=>
  rw[hc]at h;have h:Result.ok v w=Result.ok y u:=h;injection h with h1 h2;subst h1 h2;refine⟨Nat.le_refl _,fun _=>⟨rfl,fun w' hb=>?_⟩⟩;have:w'.cell? a=some v:=(hb.cell (World.block_lt_of_cell? w a hc)).trans hc;unfold Go.load;rw[Sem.run,this];rfl
 |none=>
  rw[hc]at h;cases hf:w.farLoad P a (m==.atomic)with
  |error e=>
   simp only at h;rw[hf]at h;cases h
  |ok r=>
   obtain⟨v,l⟩:=r;simp only at h;rw[hf]at h;have h:Result.ok v w=Result.ok y u:=h;injection h with h1 h2;subst h1 h2;refine⟨Nat.le_refl _,fun _=>⟨rfl,fun w' hb=>?_⟩⟩;obtain⟨hlt,hf'⟩:=far_same hb hf;have:w'.cell? a=none:=(hb.cell hlt).trans hc;unfold Go.load;rw[Sem.run,this];simp only;rw[hf'];rfl
theorem Calm.getObj(r:Nat):Calm P (Go.getObj r):=by
 intro w y u h;have hlt:r<w.heap.size:=by
  rcases Nat.lt_or_ge r w.heap.size with h1|h1
  ·exact h1
  ·unfold Go.getObj at h;rw[Sem.run,Array.getElem?_eq_none h1]at h;cases h
 have hsame: ∀w',Below w.heap.size w w'→w'.heap[r]? =w.heap[r]? :=fun w' hb=>hb.block r hlt;unfold Go.getObj at h⊢;rw[Sem.run]at h;split at h
 ·cases h
 ·rename_i o ho hcells;have h:Result.ok o w=Result.ok y u:=h;injection h with h1 h2;subst h1 h2;refine⟨Nat.le_refl _,fun _=>⟨rfl,fun w' hb=>?_⟩⟩;rw[Sem.run,hsame w' hb,hcells];split
  ·rename_i e;injection e with e;exact(ho _ _ _ e).elim
  ·rename_i e;injection e with e;rw[←e];rfl
  ·rename_i e;cases e
 ·cases h
theorem Calm.typeInfo(t:TypeId):Calm P (Go.typeInfo t):=by
 unfold Go.typeInfo;refine Calm.program_bind ?_;split
 ·exact .pure _
 ·exact .stuck _
theorem Calm.underlying(t:TypeId):Calm P (Go.underlying t):=by
 unfold Go.underlying;refine Calm.program_bind ?_;split
 ·exact .pure _
 ·exact .stuck _
theorem Calm.underlying_bind{t:TypeId}{f:TypeDesc→Sem α}(h: ∀d,P.underlying t=some d→Calm P (f d)):Calm P (Go.underlying t>>=f):=by
 intro w y u e;cases hd:P.underlying t with
 |none=>
  exfalso;have:(Go.underlying t).run P w=(Go.stuck "no such type" :Sem TypeDesc).run P w:=by
   unfold Go.underlying;show Sem.run P (match P.underlying t with|some d=>Pure.pure d|none=>Go.stuck "no such type") w=_
   rw[hd]
  rw[Sem.run_bind,this]at e;cases e
 |some d=>
  have hr: ∀w,(Go.underlying t).run P w= .ok d w:=fun w=>by
   unfold Go.underlying;show Sem.run P (match P.underlying t with|some d=>Pure.pure d|none=>Go.stuck "no such type") w=_
   rw[hd];rfl
  rw[Sem.run_bind,hr,Result.andThen_ok]at e;obtain⟨h1,h2⟩:=h d hd w y u e;refine⟨h1,fun hs=>⟨(h2 hs).1,fun w' hb=>?_⟩⟩;rw[Sem.run_bind,hr,Result.andThen_ok];exact(h2 hs).2 w' hb
theorem Calm.sizeOf(t:TypeId):Calm P (Go.sizeOf t):=by
 unfold Go.sizeOf;exact(Calm.typeInfo t).bind fun _=>.pure _
theorem Calm.isAgg(t:TypeId):Calm P (Go.isAgg t):=by
 unfold Go.isAgg;refine(Calm.underlying t).bind fun d=>?_;split
 ·exact .pure _
 ·exact .pure _
 ·exact .pure _
theorem Calm.zeroValue(t:TypeId):Calm P (Go.zeroValue t):=by
 unfold Go.zeroValue;refine(Calm.typeInfo t).bind fun d=>?_;split
 ·exact .pure _
 ·exact .unsupported _
theorem Calm.loadCellsFrom(a:Addr): ∀(n i:Nat) (acc:Array Value),Calm P (Go.loadCellsFrom a i n acc)
 |0,_,_=>.pure _
 |n+1,i,acc=>by
  unfold Go.loadCellsFrom;exact(Calm.load _ _).bind fun v=>Calm.loadCellsFrom a n (i+1) _
theorem Calm.loadVar(t:TypeId)(a:Addr):Calm P (Go.loadVar t a):=by
 unfold Go.loadVar;refine(Calm.isAgg t).bind fun b=>?_;split
 ·refine(Calm.sizeOf t).bind fun n=>?_;refine Calm.bind ?_ fun _=>.pure _;exact Calm.loadCellsFrom a _ _ _
 ·exact .load _ _
theorem Calm.sureAddr(x:Value):Calm P (Instr.sureAddr x):=by
 unfold Instr.sureAddr;split
 ·exact .pure _
 ·exact .stuck _
theorem Calm.loadAt(t:TypeId)(x:Value):Calm P (Instr.loadAt t x):=by
 unfold Instr.loadAt;exact(Calm.sureAddr x).bind fun a=>.loadVar t a
theorem bounds_never(x y:Int)(c:Bool)(d:BoundsCode)(w:World)(z:α)(u:World):(Go.runtimePanic (.bounds x y c d):Sem α).run P w≠.ok z u:=fun h=>by cases h
theorem nilDeref_never(w:World)(z:α)(u:World):(Go.runtimePanic .nilDeref:Sem α).run P w≠.ok z u:=fun h=>by cases h
theorem never_bind{m:Sem β}{f:β→Sem α}(h: ∀b w z u,(f b).run P w≠.ok z u)(w:World)(z:α)(u:World):(m>>=f).run P w≠.ok z u:=by
 rw[Sem.run_bind];cases m.run P w with
 |ok b v=>exact h b v z u
 |halt e v=>exact fun h=>by cases h
theorem Calm.boundsPanic(k:IntKind)(x y:Int)(c:BoundsCode):Calm P (Go.boundsPanic k x y c:Sem α):=by
 refine .never fun w r u=>?_;unfold Go.boundsPanic;dsimp only;split
 ·exact never_bind (fun b w z u=>bounds_never _ _ _ _ w z u) w r u
 ·exact never_bind (fun b w z u=>bounds_never _ _ _ _ w z u) w r u
theorem Calm.asIntOf(x:Value):Calm P (Go.asIntOf x):=by
 unfold Go.asIntOf;split
 ·exact .pure _
 ·exact .unsupported _
 ·exact .stuck _
theorem Calm.asBool(x:Value):Calm P (Go.asBool x):=by
 unfold Go.asBool;split
 ·exact .pure _
 ·exact .stuck _
theorem Calm.asAgg(x:Value):Calm P (Go.asAgg x):=by
 unfold Go.asAgg;split
 ·exact .pure _
 ·exact .stuck _
theorem Calm.part(t:TypeId)(cs:Array Value)(o:Nat):Calm P (Go.part t cs o):=by
 unfold Go.part;refine(Calm.isAgg t).bind fun b=>?_;split
 ·exact(Calm.sizeOf t).bind fun _=>.pure _
 ·split
  ·exact .pure _
  ·exact .stuck _
theorem Calm.field(t:TypeId)(x:Value)(f:Nat):Calm P (Instr.field t x f):=by
 unfold Instr.field;refine(Calm.underlying t).bind fun d=>?_;split
 ·split
  ·exact(Calm.asAgg x).bind fun _=>.part _ _ _
  ·exact .stuck _
 ·exact .stuck _
theorem Calm.index(t:TypeId)(x i:Value):Calm P (Instr.index t x i):=by
 unfold Instr.index;refine(Calm.asIntOf i).bind fun p=>?_;refine(Calm.underlying t).bind fun d=>?_;split
 ·split
  ·exact(Calm.sizeOf _).bind fun _=>.part _ _ _
  ·exact .boundsPanic _ _ _ _
 ·split
  ·exact .pure _
  ·exact .boundsPanic _ _ _ _
 ·exact .stuck _
theorem Calm.extract(x:Value)(i:Nat):Calm P (Instr.extract x i):=by
 unfold Instr.extract;split
 ·split
  ·exact .pure _
  ·exact .stuck _
 ·exact .stuck _
theorem Calm.indexAt_end(t e:TypeId)(k:IntKind)(i:Int)(b:Option Addr)(n:Nat)(f:TypeDesc→Bool):Calm P (Go.underlying t>>=fun d=>match b with
  |some a=>if 0≤i∧i<n then Go.sizeOf e>>=fun z=>Pure.pure (Value.pointer (some (a.add (i.toNat*z))))else if f d=true then Go.unsupported (.noEntry "op/indexAddr.an index out of range at an array of length 0 or 1 (ledger 616)")else Go.boundsPanic k i n .index
  |none=>Go.boundsPanic k i 0 .index):=by
 refine(Calm.underlying t).bind fun d=>?_;split
 ·split
  ·exact(Calm.sizeOf _).bind fun _=>.pure _
  ·split
   ·exact .unsupported _
   ·exact .boundsPanic _ _ _ _
 ·exact .boundsPanic _ _ _ _
theorem Calm.indexAt(t:TypeId)(x i:Value):Calm P (Instr.indexAt t x i):=by
 unfold Instr.indexAt;refine(Calm.asIntOf i).bind fun p=>?_;obtain⟨k,i⟩:=p;refine(Calm.underlying t).bind fun d=>?_;dsimp only;split
 ·refine(Calm.sureAddr _).bind fun _=>(Calm.pure _).bind fun q=>?_;obtain⟨b,n,e⟩:=q;exact Calm.indexAt_end t e k i b n (fun d=>decide (n≤1)&&match d with| .array _ _=>true|_=>false)
 ·refine(Calm.pure _).bind fun q=>?_;obtain⟨b,n,e⟩:=q;exact Calm.indexAt_end t e k i b n (fun d=>decide (n≤1)&&match d with| .array _ _=>true|_=>false)
 ·refine(Calm.stuck _).bind fun q=>?_;obtain⟨b,n,e⟩:=q;exact Calm.indexAt_end t e k i b n (fun d=>decide (n≤1)&&match d with| .array _ _=>true|_=>false)
theorem Calm.sliceBound(x:Value)(y:Nat)(c:BoundsCode):Calm P (Instr.sliceBound x y c):=by
 unfold Instr.sliceBound;refine(Calm.asIntOf x).bind fun p=>?_;obtain⟨k,i⟩:=p;dsimp only;by_cases h:0≤i∧i≤y
 ·rw[if_pos h];exact .pure _
 ·rw[if_neg h];exact .boundsPanic _ _ _ _
theorem Calm.bounds3(hm hh:Nat)(lo:Option Value)(b:Bool):Calm P (match lo with
  |some v=>Instr.sliceBound v hh (if b=true then .slice3C else .sliceB)>>=fun l=>Pure.pure (l,hh,hm)
  |none=>Pure.pure 0>>=fun l=>Pure.pure (l,hh,hm)):=by
 split
 ·exact(Calm.sliceBound _ _ _).bind fun _=>.pure _
 ·exact(Calm.pure _).bind fun _=>.pure _
theorem Calm.sliceBounds(b:Bool)(n c:Nat)(lo hi mx:Option Value):Calm P (Instr.sliceBounds b n c lo hi mx):=by
 unfold Instr.sliceBounds;dsimp only;cases mx with
 |none=>
  refine(Calm.pure _).bind fun m=>?_;cases hi with
  |none=>exact(Calm.pure _).bind fun h=>Calm.bounds3 _ _ _ _
  |some v=>exact(Calm.sliceBound _ _ _).bind fun h=>Calm.bounds3 _ _ _ _
 |some u=>
  refine(Calm.sliceBound _ _ _).bind fun m=>?_;cases hi with
  |none=>exact(Calm.stuck _).bind fun h=>Calm.bounds3 _ _ _ _
  |some v=>exact(Calm.sliceBound _ _ _).bind fun h=>Calm.bounds3 _ _ _ _
theorem Calm.asAddr(x:Value):Calm P (Go.asAddr x):=by
 unfold Go.asAddr;split
 ·exact .pure _
 ·exact .never nilDeref_never
 ·exact .stuck _
theorem Calm.slice(t:TypeId)(x:Value)(lo hi mx:Option Value):Calm P (Instr.slice t x lo hi mx):=by
 unfold Instr.slice;refine(Calm.underlying t).bind fun d=>?_;split
 ·split
  ·exact Calm.bind (.stuck _) fun _=>(Calm.sliceBounds _ _ _ _ _ _).bind fun _=>.pure _
  ·exact(Calm.sliceBounds _ _ _ _ _ _).bind fun _=>.pure _
 ·exact(Calm.sliceBounds _ _ _ _ _ _).bind fun _=>(Calm.sizeOf _).bind fun _=>.pure _
 ·refine(Calm.asAddr _).bind fun _=>(Calm.underlying _).bind fun d=>?_;split
  ·exact(Calm.sliceBounds _ _ _ _ _ _).bind fun _=>(Calm.sizeOf _).bind fun _=>.pure _
  ·exact .stuck _
 ·exact .stuck _
theorem Calm.sliceAt(t:TypeId)(x:Value)(lo hi mx:Option Value):Calm P (Instr.sliceAt t x lo hi mx):=by
 unfold Instr.sliceAt;refine(Calm.underlying t).bind fun d=>?_;split
 ·exact(Calm.sureAddr _).bind fun _=>(Calm.sliceBounds _ _ _ _ _ _).bind fun _=>(Calm.sizeOf _).bind fun _=>.pure _
 ·exact .slice _ _ _ _ _
theorem Calm.len(ts:Array TypeId)(t:TypeId)(xs:Array Value):Calm P (Builtin.len_ ts t xs):=by
 unfold Builtin.len_;split
 ·refine(Calm.underlying _).bind fun d=>?_;split
  ·exact .pure _
  ·exact .pure _
  ·refine(Calm.underlying _).bind fun d=>?_;split
   ·exact .pure _
   ·exact .stuck _
  ·exact .pure _
  ·exact .pure _
  ·exact .pure _
  ·refine(Calm.getObj _).bind fun d=>?_;split
   ·exact .pure _
   ·exact .stuck _
  ·refine(Calm.getObj _).bind fun d=>?_;split
   ·exact .pure _
   ·exact .stuck _
  ·exact .stuck _
 ·exact .stuck _
end
def plain1:Value→Bool
 | .int _ _| .string _| .bool _| .tuple _| .slice _ _ _=>true
 |_=>false
def plainV:Value→Bool
 | .agg cs=>cs.all plain1
 |v=>plain1 v
def eqTy1(P:Program)(t:TypeId):Bool:=match P.underlying t with|some .bool|some (.int _)|some .string=>true|_=>false
def eqTy(P:Program)(t:TypeId):Bool:=
 eqTy1 P t||match P.underlying t with|some (.struct fs)=>(fs.all fun f=>eqTy1 P f.type)&&!P.stoodInHeld t&&!P.eqGuardType P.depth t|_=>false
def eqOp:BinOp→Bool| .eql| .neq=>true|_=>false
def mathOp:BinOp→Bool| .add| .sub| .mul| .lss| .leq| .gtr| .geq=>true|_=>false
section
variable {P:Program}{α β:Type}
theorem Calm.equal1{d:Nat}{t:TypeId}(ht:eqTy1 P t=true){x y:Value}(hx:plain1 x=true)(hy:plain1 y=true):Calm P (Op.equalIn d t x y):=by
 cases d with
 |zero=>exact .unsupported _
 |succ d=>
  unfold Op.equalIn;refine Calm.underlying_bind fun q hq=>?_;unfold eqTy1 at ht;rw[hq]at ht;cases q<;>first|(cases ht;done)|skip
  ·cases x<;>first|(cases hx;done)|skip
   all_goals cases y<;>first|(cases hy;done)|skip
   all_goals first|exact .stuck _|exact .pure _
  ·cases x<;>first|(cases hx;done)|skip
   all_goals cases y<;>first|(cases hy;done)|skip
   all_goals first|exact .stuck _|skip
   dsimp only;split
   ·exact .pure _
   ·exact .stuck _
  ·cases x<;>first|(cases hx;done)|skip
   all_goals cases y<;>first|(cases hy;done)|skip
   all_goals first|exact .stuck _|exact .pure _
theorem part_plain{t:TypeId}(ht:eqTy1 P t=true){cs:Array Value}(hc:cs.all plain1=true)(o:Nat){w u:World}{x:Value}(h:(Go.part t cs o).run P w= .ok x u):plain1 x=true:=by
 unfold eqTy1 at ht;have ha:(Go.isAgg t).run P w= .ok false w:=by
  unfold Go.isAgg;cases hq:P.underlying t with
  |none=>rw[hq]at ht;cases ht
  |some q=>
   rw[hq]at ht;rw[Sem.run_bind,run_underlying hq,Result.andThen_ok];cases q<;>first|(cases ht;done)|rfl
 unfold Go.part at h;rw[Sem.run_bind,ha,Result.andThen_ok]at h;have h:(match cs[o]? with|some v=>(Pure.pure v:Sem Value)|none=>Go.stuck "part: no such cell").run P w= .ok x u:=h
 split at h
 ·rename_i v hv;injection h with h1 h2;subst h1;exact Array.all_eq_true_iff_forall_mem.1 hc _ (Array.mem_of_getElem? hv)
 ·cases h
theorem Calm.bind_of{m:Sem α}{f:α→Sem β}(R:α→Prop)(hR: ∀w x u,m.run P w= .ok x u→R x)(hm:Calm P m)(hf: ∀x,R x→Calm P (f x)):Calm P (m>>=f):=by
 intro w y u h;rw[Sem.run_bind]at h;cases hr:m.run P w with
 |halt e v=>rw[hr]at h;cases h
 |ok x v=>
  rw[hr,Result.andThen_ok]at h;obtain⟨a1,a2⟩:=hm w x v hr;obtain⟨b1,b2⟩:=hf x (hR w x v hr) v y u h;refine⟨Nat.le_trans a1 b1,fun e=>?_⟩;obtain⟨rfl,a3⟩:=a2 (by omega)
  obtain⟨rfl,b3⟩:=b2 (by omega)
  refine⟨rfl,fun w' hw=>?_⟩;rw[Sem.run_bind,a3 w' hw,Result.andThen_ok];exact b3 w' hw
theorem Calm.forIn_list{σ:Type}(f:α→σ→Sem (ForInStep σ)): ∀(l:List α) (s:σ),(∀a∈l,∀s,Calm P (f a s))→Calm P (forIn l s f)
 |[],s,_=>by rw[List.forIn_nil];exact .pure _
 |a::l,s,h=>by
  rw[List.forIn_cons];refine(h a List.mem_cons_self s).bind fun r=>?_;split
  ·exact .pure _
  ·exact Calm.forIn_list f l _ fun b hb=>h b (List.mem_cons_of_mem _ hb)
theorem Calm.forIn_arr{σ:Type}(f:α→σ→Sem (ForInStep σ))(l:Array α)(s:σ)(h: ∀a∈l,∀s,Calm P (f a s)):Calm P (forIn l s f):=by
 rw[←Array.forIn_toList];exact Calm.forIn_list f l.toList s fun a ha=>h a (by simpa using ha)
theorem Calm.equal{t:TypeId}(ht:eqTy P t=true){x y:Value}(hx:plainV x=true)(hy:plainV y=true):Calm P (Op.equal t x y):=by
 unfold Op.equal;unfold eqTy at ht;rw[Bool.or_eq_true]at ht;rcases ht with ht|ht
 ·by_cases hxa: ∃cs,x= .agg cs
  ·obtain⟨cs,rfl⟩:=hxa;show Calm P (Op.equalIn (9999+1) t _ _);unfold Op.equalIn;refine Calm.underlying_bind fun q hq=>?_;unfold eqTy1 at ht;rw[hq]at ht;cases q<;>first|(cases ht;done)|skip
   all_goals cases y<;>first|(cases hy;done)|exact .stuck _|exact .unsupported _
  by_cases hya: ∃cs,y= .agg cs
  ·obtain⟨cs,rfl⟩:=hya;show Calm P (Op.equalIn (9999+1) t _ _);unfold Op.equalIn;refine Calm.underlying_bind fun q hq=>?_;unfold eqTy1 at ht;rw[hq]at ht;cases q<;>first|(cases ht;done)|skip
   all_goals cases x<;>first|(cases hx;done)|exact .stuck _|exact .unsupported _
  have h1:plain1 x=true:=by
   cases x<;>first|exact hx|exact absurd ⟨_,rfl⟩ hxa
  have h2:plain1 y=true:=by
   cases y<;>first|exact hy|exact absurd ⟨_,rfl⟩ hya
  exact .equal1 ht h1 h2
 ·show Calm P (Op.equalIn (9999+1) t _ _);unfold Op.equalIn;refine Calm.underlying_bind fun q hq=>?_;rw[hq]at ht;cases q<;>first|(cases ht;done)|skip
  rename_i fs;simp only[Bool.and_eq_true,Bool.not_eq_true']at ht;obtain⟨⟨h1,h2⟩,h3⟩:=ht;cases x<;>first|(cases hx;done)|skip
  all_goals cases y<;>first|(cases hy;done)|skip
  all_goals first|exact .stuck _|skip
  rename_i xs ys;have h1:=Array.all_eq_true_iff_forall_mem.1 h1;dsimp only;refine Calm.program_bind ?_;rw[h2];simp only[Bool.false_eq_true,if_false];refine Calm.bind (Calm.forIn_arr _ _ _ fun f hf s=>?_) fun r=>?_
  ·split
   ·refine Calm.bind_of (fun v=>plain1 v=true) (fun w v u=>part_plain (h1 f hf) hx _) (.part _ _ _) fun v hv=>?_;refine Calm.bind_of (fun v=>plain1 v=true) (fun w v u=>part_plain (h1 f hf) hy _) (.part _ _ _) fun v' hv'=>?_;refine(Calm.equal1 (h1 f hf) hv hv').bind fun b=>?_;split
    ·exact .pure _
    ·exact .pure _
   ·exact .pure _
  ·split<;>exact .pure _
theorem Calm.eqGuard{op:BinOp}{t:TypeId}(ht:eqOp op=true→eqTy P t=true)(x y:Operand){a b:Value}(ha:plainV a=true)(hb:plainV b=true):Calm P (Go.eqGuard op t x y a b):=by
 unfold Go.eqGuard;cases ho:eqOp op with
 |false=>cases op<;>first|(cases ho;done)|exact .pure _
 |true=>
  have ht:=ht ho;have hg: ∀cs ds,a= .agg cs→b= .agg ds→P.eqGuardType P.depth t=false∨eqTy1 P t=true:=fun cs ds _ _=>by
   unfold eqTy at ht;rw[Bool.or_eq_true]at ht;rcases ht with ht|ht
   ·exact .inr ht
   ·split at ht
    ·simp only[Bool.and_eq_true,Bool.not_eq_true']at ht;exact .inl ht.2
    ·cases ht
  have hg: ∀cs ds,a= .agg cs→b= .agg ds→P.eqGuardType P.depth t=false:=fun cs ds e1 e2=>by
   rcases hg cs ds e1 e2 with h|h
   ·exact h
   ·unfold eqTy1 at h;cases hd:P.depth with
    |zero=>
     exfalso;unfold Program.depth at hd;omega
    |succ d=>
     unfold Program.eqGuardType;cases hq:P.underlying t with
     |none=>rfl
     |some q=>
      rw[hq]at h;cases q<;>first|rfl|(cases h;done)
  have hn:(!eqOp op)=false:=by rw[ho];rfl
  cases op<;>first|(cases ho;done)|skip
  all_goals
   cases a<;>first|(cases ha;done)|skip
   all_goals cases b<;>first|(cases hb;done)|skip
   all_goals first
    |exact .pure _
    |(refine Calm.program_bind (Calm.program_bind ?_)
      rw[hg _ _ rfl rfl]
      exact .pure _)
theorem Calm.ints(k k':IntKind)(s:String)(x:Value):Calm P (if k≠k' then(Go.stuck s:Sem Value)else Pure.pure x):=by
 split
 ·exact .stuck _
 ·exact .pure _
theorem Calm.strs(c:Prop)[Decidable c](s:Unsupported)(x:Value):Calm P (if c then(Go.unsupported s:Sem Value)else Pure.pure x):=by
 split
 ·exact .unsupported _
 ·exact .pure _
theorem Calm.binOp{op:BinOp}{t:TypeId}(ho:(mathOp op||eqOp op)=true)(ht:eqOp op=true→eqTy P t=true){a b:Value}(ha:plainV a=true)(hb:plainV b=true):Calm P (Go.binOp op t a b):=by
 cases op<;>first|(cases ho;done)|skip
 all_goals
  cases a<;>first|(cases ha;done)|skip
  all_goals cases b<;>first|(cases hb;done)|skip
  all_goals first
   |exact .stuck _
   |(refine Calm.bind (Calm.equal (ht rfl) ha hb) fun _=>.pure _)
   |exact Calm.ints _ _ _ _
   |exact Calm.pure _
   |exact Calm.strs _ _ _
end
theorem wp_copy_run(w:World){P:Program}{o:Oper}{a:Act}{K:Act→World→Prop}{Q:Exit→Act→World→Prop}(d s:Operand)(t t':TypeId)
  (ho:o.op= .call {callee:=.builtin .copy,args:=#[d,s],argTypes:=#[t,t']}) (v u:Value) (hd:a.eval d=v) (hs:a.eval s=u) {v':Value} {w':World}
  (hr:(Builtin.copy_ #[t,t'] o.type #[v,u]).run P w= .ok v' w') (h:K (a.put o.dst v') w'):o.wp P a w K Q:=by
 unfold Oper.wp execOp;simp only[ho,resolve,invoke,builtin,Sem.run_bind,Sem.run_pure,Result.andThen_ok,List.map_toArray,List.map_cons,List.map_nil,hd,hs,hr];exact h
theorem wp_append_run(w:World){P:Program}{o:Oper}{a:Act}{K:Act→World→Prop}{Q:Exit→Act→World→Prop}(d s:Operand)(t t':TypeId)
  (ho:o.op= .call {callee:=.builtin .append,args:=#[d,s],argTypes:=#[t,t']}) (v u:Value) (hd:a.eval d=v) (hs:a.eval s=u) {v':Value} {w':World}
  (hr:(Builtin.append_ #[t,t'] o.type #[v,u]).run P w= .ok v' w') (h:K (a.put o.dst v') w'):o.wp P a w K Q:=by
 unfold Oper.wp execOp;simp only[ho,resolve,invoke,builtin,Sem.run_bind,Sem.run_pure,Result.andThen_ok,List.map_toArray,List.map_cons,List.map_nil,hd,hs,hr];exact h
theorem wpList_append_run(w:World){P:Program}{ops:Array Oper}{rest:List Oper}{o:Oper}{a:Act}{Q:Exit→Act→World→Prop}(hgd:o.guard=none)(d s:Operand)(t t':TypeId)
  (ho:o.op= .call {callee:=.builtin .append,args:=#[d,s],argTypes:=#[t,t']}) (v u:Value) (hd:a.eval d=v) (hs:a.eval s=u) {v':Value} {w':World}
  (hr:(Builtin.append_ #[t,t'] o.type #[v,u]).run P w= .ok v' w') (h:wpList P ops Q rest (a.put o.dst v') w'):wpList P ops Q (o::rest) a w:=
 wpList_plain hgd fun _ hK=>wp_append_run w d s t t' ho v u hd hs hr (hK _ _ h)
theorem run_copy_rowN{P:Program}(w:World)(dT sT ty elem:TypeId)(g o dLen dCap:Nat)(a:Addr)(sLen sCap:Nat)(cur:Array Value)(t:TypeId)(cs:List Value)(k:Nat)
  (hu:P.underlying dT=some (.slice elem)) (hs:(P.info? elem).map (·.size)=some k)
  (hg:w.heap[g]? =some (.cells cur t (0,0))) (hn:cs.length=Nat.min sLen dLen*k)
  (hsrc: ∀j v,cs[j]? =some v→w.cell? (a.add j)=some v) (hfit:o+cs.length≤cur.size) (h1: ∀v∈cs,v.oneCell'=true):
  (Builtin.copy_ #[dT,sT] ty #[.slice (some ⟨g,o,none⟩) dLen dCap,.slice (some a) sLen sCap]).run P w=
   .ok (goInt (Nat.min sLen dLen)) (w.setRow g (cur.toList.take o++cs++cur.toList.drop (o+cs.length)).toArray):=by
 have hl:=run_loadCells_list (P:=P) w a cs hsrc;have hst:=run_storeCells_at P g o t cs 0 cur w hg (by simpa using hfit) h1
 cases hq:P.info? elem with
 |none=>simp[hq]at hs
 |some i=>
  have hi:i.size=k:=by simpa[hq]using hs
  simp[Builtin.copy_,run_underlying hu,Builtin.lenOf,Builtin.firstCells,sizeOf,typeInfo,hq,hi,←hn,hl,hst]
theorem grown_setRow(w:World)(g:Nat)(cur:Array Value):w.grownBy (w.setRow g cur) (some g):=by
 refine⟨rfl,rfl,rfl,by simp[World.setRow],fun k hk hne=>?_⟩
 have:k≠g:=fun e=>hne (by rw[e])
 simp only[World.setRow,Array.getElem?_modify];rw[if_neg (fun e=>this e.symm)]
theorem shift_list(X rest new:List Value)(i n:Nat)(hX:X.length=n*2)(hi:i<n)(hnew:new.length=2)(hr:2≤rest.length):
  let cur:=X++rest
  let cur1:=cur.take ((i+1)*2)++X.drop (i*2)++cur.drop ((i+1)*2+(X.drop (i*2)).length)
  (cur1.take (i*2)++new++cur1.drop (i*2+2)).take ((n+1)*2)=X.take (i*2)++new++X.drop (i*2):=by
 intro cur cur1;have e1:(X.drop (i*2)).length=n*2-i*2:=by rw[List.length_drop,hX]
 have e2:cur1.take (i*2)=X.take (i*2):=by
  show List.take (i*2) (List.take ((i+1)*2) (X++rest)++X.drop (i*2)++_)=_;rw[List.append_assoc,List.take_append_of_le_length (by rw[List.length_take,List.length_append,hX];omega),List.take_take,Nat.min_eq_left (by omega),List.take_append_of_le_length (by omega)]
 have e3:cur1.drop (i*2+2)=X.drop (i*2)++cur.drop ((i+1)*2+(X.drop (i*2)).length):=by
  show List.drop (i*2+2) (List.take ((i+1)*2) (X++rest)++X.drop (i*2)++_)=_;rw[List.append_assoc,List.drop_append_of_le_length (by rw[List.length_take,List.length_append,hX];omega),List.drop_eq_nil_of_le (by rw[List.length_take];omega),List.nil_append]
 rw[e2,e3,←List.append_assoc,List.take_append_of_le_length (by simp only[List.length_append,List.length_take,hnew,e1,hX];omega)]
 exact List.take_of_length_le (by simp only[List.length_append,List.length_take,hnew,e1,hX];omega)
theorem grow_list(X Z new:List Value)(i n:Nat)(hX:X.length=n*2)(hi:i<n)(hnew:new.length=2):
  let row:=X.take (i*2)++Z
  let row1:=row.take (i*2)++new++row.drop (i*2+2)
  (row1.take ((i+1)*2)++X.drop (i*2)++row1.drop ((i+1)*2+(X.drop (i*2)).length)).take ((n+1)*2)=X.take (i*2)++new++X.drop (i*2):=by
 intro row row1;have e1:(X.drop (i*2)).length=n*2-i*2:=by rw[List.length_drop,hX]
 have e0:(X.take (i*2)).length=i*2:=by rw[List.length_take,hX];omega
 have e2:row.take (i*2)=X.take (i*2):=by
  show List.take (i*2) (X.take (i*2)++Z)=_;rw[List.take_append_of_le_length (by omega)]
  exact List.take_of_length_le (by omega)
 have e3:row1.take ((i+1)*2)=X.take (i*2)++new:=by
  show List.take ((i+1)*2) (row.take (i*2)++new++_)=_;rw[e2,List.take_append_of_le_length (by rw[List.length_append,e0,hnew];omega)]
  exact List.take_of_length_le (by rw[List.length_append,e0,hnew];omega)
 rw[e3,List.take_append_of_le_length (by simp only[List.length_append,hnew,e1,e0];omega)]
 exact List.take_of_length_le (by simp only[List.length_append,hnew,e1,e0];omega)
end Go.Proofs.YtjbnfigpflambacGreatDoor
