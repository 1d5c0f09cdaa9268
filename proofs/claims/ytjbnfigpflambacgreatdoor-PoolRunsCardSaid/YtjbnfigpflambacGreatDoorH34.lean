/- pool.Run's beginning: acts in memory. An argument that is a slice of acts, opened to its cells. Conditions: those of each lemma. -/
import Derived.Test.YtjbnfigpflambacGreatDoorH29
import Derived.Test.YtjbnfigpflambacGreatDoorH33
namespace Go.Proofs.YtjbnfigpflambacGreatDoor
set_option maxRecDepth 100000
set_option maxHeartbeats 16000000
open _root_.Go.Proofs.Tryz
open Go.ChangeShapes Go.WideShapes Go.ChangeAt Go.RowKit
structure AcAt(w:World)(p:Addr)(x:Ac):Prop where
 k:w.cell? p=some (.int .i64 x.kind)
 c:w.cell? ⟨p.block,p.off+1,none⟩=some (.int .i64 x.c)
 d:w.cell? ⟨p.block,p.off+2,none⟩=some (.string x.data)
def AcL(w:World)(B:Nat)(v:Value)(l:List Ac):Prop:=
 ∃A cap,v= .slice A l.length cap∧(0<l.length→∃ad,A=some ad∧ad.block<B∧∀i (h:i<l.length),AcAt w (ad.add (i*3)) l[i])
theorem AcAt.below{w w':World}{B:Nat}{p:Addr}{x:Ac}(h:AcAt w p x)(hp:p.block<B)(hb:Below B w w'):AcAt w' p x:=
 ⟨(hb.cell hp).trans h.k,(hb.cell (by exact hp)).trans h.c,(hb.cell (by exact hp)).trans h.d⟩
theorem AcL.below{w w':World}{B:Nat}{v:Value}{l:List Ac}(h:AcL w B v l)(hb:Below B w w'):AcL w' B v l:=by
 obtain⟨A,cap,e,h3⟩:=h;refine⟨A,cap,e,fun hn=>?_⟩;obtain⟨ad,e,hB,hi⟩:=h3 hn;exact⟨ad,e,hB,fun i h=>(hi i h).below (by rw[block_of_add];exact hB) hb⟩
theorem AcL.more{w:World}{B B':Nat}{v:Value}{l:List Ac}(h:AcL w B v l)(hB:B≤B'):AcL w B' v l:=by
 obtain⟨A,cap,e,h3⟩:=h;exact⟨A,cap,e,fun hn=>(by obtain⟨ad,e,hb,hi⟩:=h3 hn;exact⟨ad,e,by omega,hi⟩)⟩
structure AcOk(a:Ac):Prop where
 k:a.kind=1∨a.kind=2
 c0:0≤a.c
 c6:a.c<6
 d:a.data.size≤1000
def kv0:KV:=⟨.slice none 0 0,.slice none 0 0,.slice none 0 0,0⟩
def M00(mode:Int)(n:Nat):MV:=⟨mode,n,List.replicate n (-1),fun _=>⟨#[]⟩,fun _=>[],fun _=>[],fun _=>0,fun _=>⟨#[]⟩,fun _=>Ow.new,[],[],⟨[],[]⟩,List.replicate n Ow.new⟩
def V00(n o k:Nat):PV:=⟨.slice none 0 0,.slice none 0 0,.slice (some ⟨o,0,none⟩) n n,.slice (some ⟨k,0,none⟩) n n,fun _=>.slice none 0 0,fun _=>.slice none 0 0,fun _=>.slice none 0 0,fun _=>.slice none 0 0,fun _=>.slice none 0 0,fun _=>.pointer none,fun _=>.slice none 0 0,.slice none 0 0,.slice none 0 0⟩
def pool00(mode:Int)(n o k:Nat):Array Value:=((List.range 68).map (cellV (M00 mode n) (V00 n o k))).toArray
theorem kv_cells(n:Nat):((List.replicate n kv0).flatMap KV.cells).length=n*4:=by
 induction n with
 |zero=>rfl
 |succ n ih=>
  rw[List.replicate_succ,List.flatMap_cons,List.length_append,ih];show 4+n*4=_;omega
theorem own_blk{w:World}{g:Nat}{t:TypeId}{cs:Array Value}{B size n:Nat}(h:Blk w g t cs)(hB:B≤g)(hs:cs.size=n*size)(hm:n≤maxLen):OwnO w B t size (.slice (some ⟨g,0,none⟩) n n) n cs.toList:=
 ⟨by simpa using hs,.inr ⟨g,0,n,cs,rfl,hB,h,Nat.le_refl _,hm,by omega,by rw[List.drop_zero,List.take_of_length_le (by simp;omega)]⟩⟩
theorem intV_rep(n:Nat):intV (List.replicate n (-1))=List.replicate n (.int .i64 (-1)):=by unfold intV;rw[List.map_replicate]
theorem rep_list{cs:Array Value}{n:Nat}{v:Value}(hs:cs.size=n)(h: ∀j,j<n→cs[j]? =some v):cs.toList=List.replicate n v:=by
 refine List.ext_getElem? fun j=>?_;rw[List.getElem?_replicate,Array.getElem?_toList];split
 ·exact h j (by assumption)
 ·exact Array.getElem?_eq_none (by omega)
theorem start_pool{w:World}{B p o k n:Nat}{mode:Int}(hp:Blk w p 101 (pool00 mode n o k)){co:Array Value}(ho:Blk w o 3 co)(hco:co.size=n)(hc1: ∀j,j<n→co[j]? =some (.int .i64 (-1)))
  (hk:Blk w k 92 ((List.replicate n kv0).flatMap KV.cells).toArray) (h1:B≤p) (h2:B≤o) (h3:B≤k) (hn:n≤1000):PoolR w B p (V00 n o k) (List.replicate n kv0) (M00 mode n):=by
 have hm:n≤maxLen:=le_maxLen (by omega)
 have npo:p≠o:=hp.ne_ ho (by decide)
 have npk:p≠k:=hp.ne_ hk (by decide)
 have nok:o≠k:=ho.ne_ hk (by decide)
 refine⟨⟨⟨_,hp⟩,h1,OPL.nil_ _ _,⟨[],World.ownsRow_nil _ _ _ _,rfl⟩,?_,?_,?_,?_,fun _ _=>OwnO.nil _ _ _ _,fun _ _=>OwnO.nil _ _ _ _,fun _ _=>⟨OPL.nil_ _ _,OPL.nil_ _ _,OPL.nil_ _ _⟩,fun _ _=>.inl rfl,fun _ _=>OwnO.nil _ _ _ _,OwnO.nil _ _ _ _,OwnO.nil _ _ _ _,?_⟩,⟨_,hp,?_,?_⟩⟩
 ·have:=own_blk (n:=n) ho h2 (size:=1) (by omega) hm
  rw[rep_list hco hc1,←intV_rep]at this;show OwnO w B 3 1 (.slice (some ⟨o,0,none⟩) n n) (List.replicate n (-1)).length _;rw[List.length_replicate];exact this
 ·have:=own_blk (n:=n) hk h3 (size:=4) (by rw[List.size_toArray];exact kv_cells n) hm
  show OwnO w B 92 4 (.slice (some ⟨k,0,none⟩) n n) (List.replicate n kv0).length _;rw[List.length_replicate];exact this
 ·show(List.replicate n kv0).length=(List.replicate n Ow.new).length;rw[List.length_replicate,List.length_replicate]
 ·intro s hs;have e1:(List.replicate n kv0)[s]=kv0:=List.getElem_replicate ..;have e2:(M00 mode n).known.getD s Ow.new=Ow.new:=rep_getD n s Ow.new;rw[e1,e2];exact⟨⟨OPL.nil_ _ _,OPL.nil_ _ _,OPL.nil_ _ _⟩,rfl⟩
 ·intro r r' q hr hr' e e';have at_: ∀r:Role,(V00 n o k).at p r=some q→(r= .pool∧q=p)∨(r= .owner∧q=o)∨(r= .known∧q=k):=by
   intro r e;cases r
   case pool=>exact .inl ⟨rfl,(Option.some.inj e).symm⟩
   case owner=>exact .inr (.inl ⟨rfl,(Option.some.inj e).symm⟩)
   case known=>exact .inr (.inr ⟨rfl,(Option.some.inj e).symm⟩)
   all_goals cases e
  rcases at_ r e with⟨rfl,h⟩|⟨rfl,h⟩|⟨rfl,h⟩<;>rcases at_ r' e' with⟨rfl,h'⟩|⟨rfl,h'⟩|⟨rfl,h'⟩<;>first|rfl|omega
 ·show(pool00 mode n o k).size=68;simp[pool00]
 ·intro j hj;unfold pool00;rw[List.getElem?_toArray,List.getElem?_map,List.getElem?_range hj];rfl
def M01(mode:Int)(n m:Nat):MV:={M00 mode n with srv:=fun c=>if c<m then-1 else 0,w:=⟨[],List.replicate n Se.new⟩}
theorem m01_step(mode:Int)(n m:Nat):({M01 mode n m with srv:=up (M01 mode n m).srv m (-1)}:MV)=M01 mode n (m+1):=by
 have e:up (M01 mode n m).srv m (-1)=(M01 mode n (m+1)).srv:=by
  funext c;show(if c=m then(-1:Int)else if c<m then-1 else 0)=if c<m+1 then-1 else 0
  by_cases h:c=m
  ·rw[if_pos h,if_pos (by omega)]
  ·by_cases h2:c<m
   ·rw[if_neg h,if_pos h2,if_pos (by omega)]
   ·rw[if_neg h,if_neg h2,if_neg (by omega)]
 rw[e];rfl
theorem m01_end{w:World}{B p:Nat}{V:PV}{ks:List KV}{mode:Int}{n:Nat}(h:PoolR w B p V ks (M01 mode n 6)):PoolR w B p V ks (MV.of (startF mode n) (startP n)):=by
 have hc: ∀c,(startF mode n).c c=Cl.new:=start_c mode n;have hlo:(startF mode n).owner.length=n:=by show(List.replicate n (-1:Int)).length=n;rw[List.length_replicate]
 have how: ∀c,(startP n).ow c=Ow.new:=fun c=>rep_getD 6 c Ow.new;have e:MV.of (startF mode n) (startP n)={M01 mode n 6 with srv:=fun _=>-1}:=by
  unfold MV.of M01 M00;simp only[hc,hlo];congr 1
  funext c;exact how c
 rw[e];refine⟨⟨h.o.blk,h.o.lb,h.o.rows,h.o.ses,h.o.owner,h.o.known,h.o.klen,h.o.kn,h.o.pend,h.o.bad,h.o.ow,h.o.adr,h.o.buf,h.o.wait,h.o.deeds,h.o.apart⟩,h.b.same fun j hj=>?_⟩;unfold cellV;split
 ·rfl
 split
 ·have hj6:(j-6) / 10<6:=by omega
  refine congrFun (clV_ext fun k hk=>?_) _;match k,hk with
  |3,_=>
   show Value.int .i64 (-1)= .int .i64 (if(j-6) / 10<6 then-1 else 0)
   rw[if_pos hj6]
  |0,_|1,_|2,_|4,_|5,_|6,_|7,_|8,_|9,_=>rfl
 ·rfl
def zcS:Nat→List Value
 |0=>[]
 |n+1=>.int .i64 0::.slice none 0 0::.slice none 0 0::.slice none 0 0::.slice none 0 0::zcS n
theorem zcS_ok(w:World)(B:Nat): ∀n,SesC w B (zcS n) (List.replicate n Se.new)
 |0=>rfl
 |n+1=>⟨_,_,_,_,zcS n,rfl,OPL.nil_ _ _,OPL.nil_ _ _,OPL.nil_ _ _,OPL.nil_ _ _,by unfold Se.new;decide,zcS_ok w B n⟩
theorem zcS_len: ∀n,(zcS n).length=n*5
 |0=>rfl
 |n+1=>by
  show(zcS n).length+5=_;rw[zcS_len n];omega
theorem zcS_osl{w:World}{g B n:Nat}(h:Blk w g 133 (zcS n).toArray)(hB:B≤g)(hn:n≤1000):OSL w B (.slice (some ⟨g,0,none⟩) n n) (List.replicate n Se.new) (zcS n):=by
 refine⟨?_,zcS_ok w B n⟩;have hm:n≤maxLen:=le_maxLen (by omega)
 refine⟨by rw[zcS_len,List.length_replicate],.inr ⟨g,n,_,by rw[List.length_replicate],hB,h,by rw[List.length_replicate];exact Nat.le_refl _,hm,by rw[List.size_toArray,zcS_len],?_⟩⟩
 rw[List.length_replicate,List.take_of_length_le (by simp[zcS_len])]
theorem m01_zero(mode:Int)(n:Nat):({M00 mode n with w:=⟨[],List.replicate n Se.new⟩}:MV)=M01 mode n 0:=by
 have e:(M00 mode n).srv=(M01 mode n 0).srv:=by
  funext c;show(0:Int)=if c<0 then-1 else 0
  rw[if_neg (by omega)]
 show MV.mk _ _ _ _ _ _ (M00 mode n).srv _ _ _ _ _ _=_;rw[e];rfl
theorem run_step(z:Fr × PB)(l:List Ac){m:Nat}(h:m<l.length):runM poolB z (l.take (m+1))=actM poolB (runM poolB z (l.take m)) l[m]:=by
 unfold runM;rw[List.take_succ_eq_append_getElem h,List.foldl_append];rfl
theorem run_take_ok(mode:Int)(n:Nat)(hn:n≤8){l:List Ac}(hl: ∀a∈l,AcOk a): ∀(m:Nat),m≤l.length→Ok (runM poolB (startF mode n,startP n) (l.take m)) (m*1000)
 |0,_=>by
  have:=Ok.start mode n hn;simpa[runM]using this
 |m+1,h=>by
  have ih:=run_take_ok mode n hn hl m (by omega)
  have ha:=hl l[m] (List.getElem_mem _);rw[run_step _ _ (by omega)]
  have hc:=ha.c6;have h0:=ha.c0;have:=ih.act (a:=l[m]) (by omega)
  have hd:=ha.d;exact⟨this.sim,this.fit.more (by omega)⟩
theorem made_ses(n:Nat)(h1:1≤n)(h4:n≤4): ∀w:World,(Instr.makeSlice 37 (.int .i64 (n:Int)) (.int .i64 (n:Int))).run Tryz.prog w= .ok (.slice (some ⟨w.heap.size,0,none⟩) n n) (w.alloc (.cells (zcS n).toArray 133)):=by
 rcases(show n=1∨n=2∨n=3∨n=4 by omega)with rfl|rfl|rfl|rfl<;>(intro w;kernel_rfl)
theorem made_own(n:Nat)(h1:1≤n)(h4:n≤4): ∀w:World,(Instr.makeSlice 89 (.int .i64 (n:Int)) (.int .i64 (n:Int))).run Tryz.prog w= .ok (.slice (some ⟨w.heap.size,0,none⟩) n n) (w.alloc (.cells ((List.replicate n kv0).flatMap KV.cells).toArray 92)):=by
 rcases(show n=1∨n=2∨n=3∨n=4 by omega)with rfl|rfl|rfl|rfl<;>(intro w;kernel_rfl)
open Go.Deep Go.Joins
def acV(l:List Ac):List Value:=l.flatMap fun a=>[.int .i64 a.kind,.int .i64 a.c,.string a.data]
theorem acV_length(l:List Ac):(acV l).length=l.length*3:=by
 induction l with
 |nil=>rfl
 |cons a l ih=>
  unfold acV at*;rw[List.flatMap_cons,List.length_append,ih,List.length_cons,List.length_cons,List.length_cons,List.length_cons,List.length_nil];omega
theorem acV_get: ∀(l:List Ac) (j:Nat) (u:Value),(acV l)[j]? =some u→∃i,∃h:i<l.length,(j=i*3∧u= .int .i64 l[i].kind)∨(j=i*3+1∧u= .int .i64 l[i].c)∨(j=i*3+2∧u= .string l[i].data)
 |[],j,u,h=>by simp[acV]at h
 |a::l,j,u,h=>by
  have e:acV (a::l)= .int .i64 a.kind::.int .i64 a.c::.string a.data::acV l:=rfl;rw[e]at h;rcases j with _|_|_|j
  ·simp at h;exact⟨0,by simp,.inl ⟨rfl,h.symm⟩⟩
  ·simp at h;exact⟨0,by simp,.inr (.inl ⟨rfl,h.symm⟩)⟩
  ·simp at h;exact⟨0,by simp,.inr (.inr ⟨rfl,h.symm⟩)⟩
  ·simp only[List.getElem?_cons_succ]at h;obtain⟨i,hi,h⟩:=acV_get l j u h;refine⟨i+1,by simpa using hi,?_⟩
   rcases h with⟨h1,h2⟩|⟨h1,h2⟩|⟨h1,h2⟩
   ·exact .inl ⟨by omega,by simpa using h2⟩
   ·exact .inr (.inl ⟨by omega,by simpa using h2⟩)
   ·exact .inr (.inr ⟨by omega,by simpa using h2⟩)
theorem acV_one(l:List Ac): ∀u∈acV l,u.oneCell'=true:=by
 intro u hu;obtain⟨a,_,h⟩:=List.mem_flatMap.1 hu;simp only[List.mem_cons,List.not_mem_nil,or_false]at h;rcases h with rfl|rfl|rfl<;>rfl
theorem acV_at: ∀(l:List Ac) (i:Nat) (h:i<l.length),(acV l)[i*3]? =some (.int .i64 l[i].kind)∧(acV l)[i*3+1]? =some (.int .i64 l[i].c)∧(acV l)[i*3+2]? =some (.string l[i].data)
 |[],i,h=>absurd h (by simp)
 |a::l,0,_=>⟨rfl,rfl,rfl⟩
 |a::l,i+1,h=>by
  have h':=acV_at l i (by simpa using h)
  have e: ∀k,(acV (a::l))[(i+1)*3+k]? =(acV l)[i*3+k]? :=fun k=>by
   unfold acV;rw[List.flatMap_cons,List.getElem?_append_right (by simp;omega)]
   simp only[List.length_cons,List.length_nil];congr 1
   omega
  have e0:=e 0;rw[Nat.add_zero,Nat.add_zero]at e0;exact⟨e0.trans h'.1,(e 1).trans h'.2.1,(e 2).trans h'.2.2⟩
structure AcW(w:World)(v:Value)(l:List Ac):Prop where
 acl:AcL w w.heap.size v l
 len:l.length≤4398046510976
 all: ∀a∈l,(Lit.int .i64 a.kind).wf=true∧(Lit.int .i64 a.c).wf=true∧a.data.size≤maxLen
theorem AcL.reads{w:World}{v:Value}{l:List Ac}(h:AcL w w.heap.size v l): ∃A cap,v= .slice A l.length cap∧Reads w w.heap.size 3 A l.length (acV l):=by
 obtain⟨A,cap,rfl,h3⟩:=h;refine⟨A,cap,rfl,acV_length l,fun hn=>?_⟩;obtain⟨ad,rfl,hb,hi⟩:=h3 hn;refine⟨ad,rfl,hb,fun j u hu=>?_⟩;have ea: ∀i j,(⟨(ad.add (i*3)).block,(ad.add (i*3)).off+(j+1),none⟩:Addr)=ad.add (i*3+(j+1)):=fun i j=>by rw[←add_of_add];rfl
 obtain⟨i,h,⟨rfl,rfl⟩|⟨rfl,rfl⟩|⟨rfl,rfl⟩⟩:=acV_get l j u hu
 ·exact(hi i h).k
 ·rw[←ea i 0];exact(hi i h).c
 ·rw[←ea i 1];exact(hi i h).d
instance :Inhabited Ac:=⟨⟨0,0,⟨#[]⟩⟩⟩
theorem open_acts{H:Type}{enc:TypeId × Value→H}{W:World}{base base':Nat}{sp:Nat→Bool}{held:Bool}{v:Value}{d:DataW H}{p:List MemPlace}(hv:Value.okWide Tryz.prog W .any base 24 v)(k:DataW.Trod enc Tryz.prog W base' sp held 24 v d p)
  (hz: ∀m∈d.weights Tryz.prog 24,m≤reachBytes): ∃l,AcW W v l:=by
 obtain⟨a0,len,cap,rfl⟩:=okWide_slice underlying24 hv;obtain⟨fuel,h⟩:=k;rcases open_slice_fields underlying24 underlying54 (by kernel_rfl) (by kernel_rfl) h with⟨hc,_⟩|⟨a,len',cap',m,D,Pl,hc,hb,hl,hm,hmm,hx,hf⟩
 ·simp only[Value.cells,List.cons.injEq,Value.slice.injEq,and_true]at hc;obtain⟨rfl,rfl,rfl⟩:=hc;exact⟨[],⟨none,0,rfl,fun h=>absurd h (by simp)⟩,by simp,by simp⟩
 ·simp only[Value.cells,List.cons.injEq,Value.slice.injEq,and_true]at hc;obtain⟨rfl,rfl,rfl⟩:=hc;have hlm:len≤m:=by rw[hmm];split<;>omega
  have each: ∀i,i<len→∃x:Ac,AcAt W (a.add (i*3)) x∧((Lit.int .i64 x.kind).wf=true∧(Lit.int .i64 x.c).wf=true∧x.data.size≤maxLen):=by
   intro i hi;obtain⟨ys,n',hDi,_,hyl,hj⟩:=hf i (by omega)
   obtain⟨v0,y0,c0,_,t0⟩:=hj 0 _ rfl;obtain⟨v1,y1,c1,_,t1⟩:=hj 1 _ rfl;obtain⟨v2,y2,c2,_,t2⟩:=hj 2 _ rfl;obtain⟨q0,e0,_,w0⟩:=DataW.trod_int underlying3 t0;obtain⟨q1,e1,_,w1⟩:=DataW.trod_int underlying3 t1;obtain⟨q2,e2,_,w2⟩:=DataW.trod_string underlying9 t2;obtain rfl:v0=_:=by simpa using e0
   obtain rfl:v1=_:=by simpa using e1
   obtain rfl:v2=_:=by simpa using e2
   have ea: ∀j,(⟨(a.add (i*3)).block,(a.add (i*3)).off+(j+1),none⟩:Addr)=a.add (i*3+(j+1)):=fun j=>by rw[←add_of_add];rfl
   exact⟨⟨q0,q1,q2⟩,⟨c0,by rw[ea 0];exact c1,by rw[ea 1];exact c2⟩,w0,w1,w2⟩
  obtain⟨f,hfp⟩:=choose_lt each;have hlen:((List.range len).map f).length=len:=by simp
  have hzz:len≤4398046510976:=by
   have hd:d= .slice ((List.range len).map D) ((List.range (m-len)).map fun j=>D (len+j)):=by injection hx
   have:=hz ((((List.range len).map D).length+((List.range (m-len)).map fun j=>D (len+j)).length)*Tryz.prog.bytesOf 54) (by rw[hd];simp[DataW.weights,underlying24])
   have hb:Tryz.prog.bytesOf 54=32:=by kernel_rfl
   rw[hb]at this;simp only[List.length_map,List.length_range,reachBytes]at this;omega
  refine⟨(List.range len).map f,⟨some a,cap,by rw[hlen],fun hn=>⟨a,rfl,?_,fun i hi=>?_⟩⟩,by rw[hlen];exact hzz,fun x hx=>?_⟩
  ·have:=World.block_lt_of_cell? W _ (hfp 0 (by rw[hlen]at hn;exact hn)).1.k
   rwa[block_of_add]at this
  ·rw[getElem_map_range];exact(hfp i (by rw[hlen]at hi;exact hi)).1
  ·obtain⟨i,hi,rfl⟩:=List.mem_map.1 hx;exact(hfp i (List.mem_range.1 hi)).2
end Go.Proofs.YtjbnfigpflambacGreatDoor
