/- What the pool knows, field by field. Conditions: those of each lemma. -/
import Derived.Test.YtjbnfigpflambacGreatDoorH18
import Derived.Test.YtjbnfigpflambacGreatDoorH27
import Derived.Test.YtjbnfigpflambacGreatDoorH28
namespace Go.Proofs.YtjbnfigpflambacGreatDoor
set_option maxRecDepth 100000
set_option maxHeartbeats 16000000
theorem up_of{α:Type}(g:Cl→α){f f':Fr}{i:Nat}(hi:i<f.cl.length){x:Cl}(e:f'.cl=f.cl.set i x):(fun c=>g (f'.c c))=up (fun c=>g (f.c c)) i (g x):=by
 funext c;rw[c_setcl hi e];unfold up;split<;>rfl
theorem up_id{α:Type}(f:Nat→α)(i:Nat):up f i (f i)=f:=by
 funext c;unfold up;split
 ·rename_i h;rw[h]
 ·rfl
theorem mv_set{f f':Fr}(b:PB){i:Nat}(hi:i<f.cl.length){x:Cl}(e:f'.cl=f.cl.set i x):
  MV.of f' b=⟨f'.mode,f'.owner.length,f'.owner,up (fun c=>(f.c c).bytes) i x.bytes,up (fun c=>(f.c c).pend.map (·.1)) i (x.pend.map (·.1)),up (fun c=>(f.c c).pend.map (·.2)) i (x.pend.map (·.2)),up (fun c=>(f.c c).srv) i x.srv,up (fun c=>(f.c c).sent) i x.sent,b.ow,f'.wait,f'.deeds,b.w,b.known⟩:=by
 unfold MV.of;rw[up_of (·.bytes) hi e,up_of (fun y=>y.pend.map (·.1)) hi e,up_of (fun y=>y.pend.map (·.2)) hi e,up_of (·.srv) hi e,up_of (·.sent) hi e]
def MV.drop(M:MV)(c:Nat)(xs:List St)(ys:List Bool):MV:={M with pend:=up M.pend c xs,bad:=up M.bad c ys}
def MV.told(M:MV)(c:Nat)(a:An):MV:={M with sent:=up M.sent c (M.sent c++tellM a)}
def MV.deed(M:MV)(d:De):MV:={M with deeds:=M.deeds++[d]}
def MV.did(M:MV)(W:Wo):MV:={M with w:=W}
section
variable {f:Fr}{b:PB}{c:Nat}
theorem of_drop(hc:c<f.cl.length){x:St}{y:Bool}{l:List (St × Bool)}(h:(f.c c).pend=(x,y)::l):MV.of (f.drop c) b=(MV.of f b).drop c (l.map (·.1)) (l.map (·.2)):=by
 rw[mv_set (f':=f.drop c) b hc rfl];unfold MV.drop MV.of;simp only[h,List.tail_cons];rw[up_id (fun c=>(f.c c).bytes),up_id (fun c=>(f.c c).srv),up_id (fun c=>(f.c c).sent)];rfl
theorem of_tell(hc:c<f.cl.length)(a:An):MV.of (f.tell c a) b=(MV.of f b).told c a:=by
 rw[mv_set (f':=f.tell c a) b hc rfl];unfold MV.told MV.of Cl.tell;simp only;rw[up_id (fun c=>(f.c c).bytes),up_id (fun c=>(f.c c).srv),up_id (fun c=>(f.c c).pend.map (·.1)),up_id (fun c=>(f.c c).pend.map (·.2))];rfl
theorem of_deed(d:De):MV.of (f.deed d) b=(MV.of f b).deed d:=rfl
theorem ow_up{b:PB}{i:Nat}(hi:i<b.own.length)(x:Ow)(w:Wo)(kn:List Ow):(⟨w,kn,b.own.set i x⟩:PB).ow=up b.ow i x:=by
 funext j;rw[ow_set hi x w kn j];rfl
theorem of_act(hb:c<b.own.length)(s:Nat)(x:St):MV.of f (actP b c s x).1=((MV.of f b).did (poDo b.w s x).1).setOw c (learn (b.ow c) x (poDo b.w s x).2):=by
 unfold MV.of actP MV.did MV.setOw;simp only;rw[ow_up hb]
theorem of_free(hc:c<f.cl.length){s:Nat}(h:(f.c c).srv=(s:Int)):MV.of (f.freeS c) (freeP b c s)=(MV.of f b).freed c s:=by
 rw[mv_set (f':=f.freeS c) (freeP b c s) hc rfl];unfold MV.freed MV.of freeP Fr.freeS;simp only[h,Int.toNat_natCast,List.length_set];rw[up_id (fun c=>(f.c c).bytes),up_id (fun c=>(f.c c).pend.map (·.1)),up_id (fun c=>(f.c c).pend.map (·.2)),up_id (fun c=>(f.c c).sent)];rfl
theorem of_bind(hc:c<f.cl.length)(s:Nat):MV.of (f.bindS s c) ⟨bindW b s c,b.known,b.own⟩=(MV.of f b).bound s c:=by
 rw[mv_set (f':=f.bindS s c) ⟨bindW b s c,b.known,b.own⟩ hc rfl];unfold MV.bound MV.of Fr.bindS;simp only[List.length_set];rw[up_id (fun c=>(f.c c).bytes),up_id (fun c=>(f.c c).pend.map (·.1)),up_id (fun c=>(f.c c).pend.map (·.2)),up_id (fun c=>(f.c c).sent)];rfl
end
theorem next_mv_bad{f:Fr}{b:PB}{c:Nat}(hc:c<f.cl.length){x:St}{l:List (St × Bool)}(h:(f.c c).pend=(x,true)::l):
  MV.of (nextM poolB (f,b) c).1 (nextM poolB (f,b) c).2=((MV.of f b).drop c (l.map (·.1)) (l.map (·.2))).told c ⟨4,tNotUnd,(b.ow c).st⟩:=by
 rw[next_bad poolB (f,b) c h,of_tell (by rw[len_drop];exact hc),of_drop hc h]
 rfl
theorem next_mv_mode{f:Fr}{b:PB}{c:Nat}(hc:c<f.cl.length){x:St}{l:List (St × Bool)}(h:(f.c c).pend=(x,false)::l)(hm:f.mode=3∧x.k=1):
  MV.of (nextM poolB (f,b) c).1 (nextM poolB (f,b) c).2=((MV.of f b).drop c (l.map (·.1)) (l.map (·.2))).told c ⟨4,tNotMode,(b.ow c).st⟩:=by
 rw[next_mode poolB (f,b) c h hm,of_tell (by rw[len_drop];exact hc),of_drop hc h]
 rfl
def MV.acted(M:MV)(c s:Nat)(x:St)(xs:List St)(ys:List Bool):MV:=
 (((((M.drop c xs ys).did (poDo M.w s x).1).setOw c (learn (M.ow c) x (poDo M.w s x).2)).deed ⟨c,x,(poDo M.w s x).2⟩).told c (poDo M.w s x).2)
theorem of_done{f:Fr}{b:PB}{c s:Nat}(hc:c<f.cl.length)(hb:c<b.own.length){x:St}{l:List (St × Bool)}(h:(f.c c).pend=(x,false)::l):
  MV.of (doneF f c x (poDo b.w s x).2) (actP b c s x).1=(MV.of f b).acted c s x (l.map (·.1)) (l.map (·.2)):=by
 unfold doneF;rw[of_tell (f:=(f.drop c).deed _) (by show c<(f.drop c).cl.length;rw[len_drop];exact hc),of_deed,of_act hb,of_drop hc h]
 rfl
theorem next_mv_act{f:Fr}{b:PB}{c s:Nat}(hc:c<f.cl.length)(hb:c<b.own.length){x:St}{l:List (St × Bool)}(h:(f.c c).pend=(x,false)::l)(hm:¬ (f.mode=3∧x.k=1))(hs:(f.c c).srv=(s:Int)):
  MV.of (nextM poolB (f,b) c).1 (nextM poolB (f,b) c).2=if f.mode≠1∧(poDo b.w s x).2.st=0 then((MV.of f b).acted c s x (l.map (·.1)) (l.map (·.2))).freed c s else(MV.of f b).acted c s x (l.map (·.1)) (l.map (·.2)):=by
 have e:(poolB.act b c (f.c c).srv.toNat x)=((actP b c s x).1,(poDo b.w s x).2):=by rw[hs];rfl
 rw[next_act poolB (f,b) c h hm];simp only[e];split
 ·have h2:((doneF f c x (poDo b.w s x).2).c c).srv=(s:Int):=by
   have hd:=done_cl hc x (poDo b.w s x).2;rw[c_setcl hc hd,if_pos rfl];exact hs
  have e2:(poolB.free (actP b c s x).1 c (f.c c).srv.toNat)=freeP (actP b c s x).1 c s:=by rw[hs];rfl
  simp only[e2];rw[of_free (by rw[len_done];exact hc) h2,of_done hc hb h]
 ·exact of_done hc hb h
end Go.Proofs.YtjbnfigpflambacGreatDoor
