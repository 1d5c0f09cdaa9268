/- Plain lemmas that every text of this seat uses. Words for memory. Statements, their words, how a text is read as a statement. Pairs by their keys, sessions, worlds of a server. A region that draws its order. Messages and the texts of answers. Reference's In: is a number from low to high. What the package-level variables hold. pool.CheckSetup and the reference's SetupFault. Conditions: those of each lemma. -/
import Derived.Test.YtjbnfigpflambacGreatDoorRows
import Derived.WalkKit
import Derived.ProofKit
import Derived.OpenShut
import Derived.Below
import Derived.Outline
import Derived.Lib.Hide
import Derived.ShutString
import Derived.ChangeOld
import Derived.Lib.SmallJoins
import Derived.Laws.OwnMore
import Derived.Deep.AppendLies
import Derived.Deep.Draws
import Derived.Laws.Rows
import Derived.Maps.AppendAt
import Derived.RegionTactic
import Derived.OwnWalk
import Derived.Lib.Split
import Derived.Lib.SplitLaws
import Derived.Lib.SlicesS
import Derived.Lib.IndexBytes
import Derived.Lib.Bytealg
import GoSem.Op.String
import Derived.OrdersHeld
import Derived.Deep.RegionHeld3
import Derived.Lib.LaidTab
namespace Go.Proofs.YtjbnfigpflambacGreatDoor
set_option maxRecDepth 100000
set_option maxHeartbeats 16000000
open _root_.Go.Proofs.Tryz
open Go.ChangeShapes Go.WideShapes Go.ChangeAt Go.RowKit
theorem Hd{p:Prop}(h:p):Hid p:=h
theorem bR{n:Nat}{w:World}:Below n w w:=Below.refl n w
theorem leR{n:Nat}:n≤n:=Nat.le_refl n
theorem own:ownKnob Tryz.prog.godebug=none:=by kernel_rfl
theorem laidOut:laidOutB Tryz.prog=true:=by kernel_rfl
theorem wf_i64{a:Int}(h:(Lit.int .i64 a).wf=true): -9223372036854775808≤a∧a≤9223372036854775807:=by
 simpa[Lit.wf,IntKind.min,IntKind.max,IntKind.signed,IntKind.bits]using h
theorem boxed(w:World)(o:Obj):Below w.heap.size w (w.alloc o):=(Below.refl _ _).alloc (Nat.le_refl _) _
theorem boxed2(w:World)(o o':Obj):Below w.heap.size w ((w.alloc o).alloc o'):=(boxed w o).alloc (by simp) _
theorem toList_data(t:ByteArray):t.toList=t.data.toList:=ByteArray.toList_eq ..
theorem size_of_nil{t:ByteArray}(h:t.toList=[]):t.size=0:=by
 rw[toList_data]at h;simpa using congrArg List.length h
theorem le_maxLen{n:Nat}(h:n≤140737488351232):n≤maxLen:=by unfold maxLen;omega
theorem box_cell{W w1:World}{cs:Array Value}{T:TypeId}(hb:Below (W.alloc (.cells cs T)).heap.size (W.alloc (.cells cs T)) w1)(i:Nat):w1.cell? ⟨W.heap.size,i,none⟩=cs[i]? :=
 (hb.cell (by simp)).trans (cell_of_row _ _ i _ _ (0,0) (heap_alloc_new W _))
theorem below_of_alloc{W w1:World}{o:Obj}{B:Nat}(hB:B≤W.heap.size)(hb:Below (W.alloc o).heap.size (W.alloc o) w1):Below B W w1:=
 ((Below.refl B W).alloc hB o).trans (hb.mono (by simp;omega))
theorem below_step{B:Nat}{a b c:World}(h:Below B a b)(hB:B≤a.heap.size)(k:Below b.heap.size b c):Below B a c:=
 h.trans (k.mono (Nat.le_trans hB h.size))
theorem below_drewN{B:Nat}{a w:World}(h:Below B a w)(n:Nat):Below B a (w.drewN n):=⟨h.os,h.tape,h.output,h.size,h.block⟩
theorem keep_cell{w w':World}(hb:Below w.heap.size w w'){a:Addr}{v:Value}(h:w.cell? a=some v):w'.cell? a=some v:=
 (hb.cell (World.block_lt_of_cell? w a h)).trans h
theorem keep_frozen{w w':World}(hb:Below w.heap.size w w'){a:Addr}{v:Value}(h:w.cell? a=some v)(hf:w.frozen? a=false):w'.frozen? a=false:=
 (hb.frozen (World.block_lt_of_cell? w a h)).trans hf
theorem box2_cell{W w1:World}{cs ds:Array Value}{S T:TypeId}(hb:Below ((W.alloc (.cells cs S)).alloc (.cells ds T)).heap.size ((W.alloc (.cells cs S)).alloc (.cells ds T)) w1)(i:Nat):
  w1.cell? ⟨W.heap.size,i,none⟩=cs[i]? ∧w1.cell? ⟨W.heap.size+1,i,none⟩=ds[i]? :=by
 refine⟨(hb.cell (by simp;try omega)).trans ?_,(hb.cell (by simp;try omega)).trans ?_⟩
 ·rw[World.cell?_alloc_lt _ _ _ (by simp)]
  exact cell_of_row _ _ i _ _ (0,0) (heap_alloc_new W _)
 ·have h:=heap_alloc_new (W.alloc (.cells cs S)) (.cells ds T);have e:(W.alloc (.cells cs S)).heap.size=W.heap.size+1:=by simp
  rw[e]at h;exact cell_of_row _ _ i _ _ (0,0) h
theorem str_inj{a b:ByteArray}(h:a.toList=b.toList):a=b:=by
 rw[toList_data,toList_data]at h;exact Go.WideShapes.bytes_inj h
theorem block_of_add(a:Addr)(n:Nat):(a.add n).block=a.block:=by unfold Addr.add;split<;>rfl
theorem add_of_add(a:Addr)(i j:Nat):(a.add i).add j=a.add (i+j):=by
 unfold Addr.add;by_cases hi:i=0<;>by_cases hj:j=0<;>simp[hi,hj,Nat.add_assoc]
def Reads(w:World)(B size:Nat)(A:Option Addr)(n:Nat)(xs:List Value):Prop:=
 xs.length=n*size∧(0<n→∃ad,A=some ad∧ad.block<B∧∀j u,xs[j]? =some u→w.cell? (ad.add j)=some u)
section
variable {w w':World}{B B' size n:Nat}{A:Option Addr}{xs:List Value}
theorem Reads.none_:Reads w B size A 0 []:=⟨by simp,fun h=>absurd h (by omega)⟩
theorem Reads.at_{k:Nat}(h:Reads w B 1 A n xs)(hk:k<n): ∃ad u,A=some ad∧ad.block<B∧xs[k]? =some u∧w.cell? (ad.add k)=some u:=by
 obtain⟨ad,e,hb,hc⟩:=h.2 (by omega)
 have hl:k<xs.length:=by have:=h.1;omega
 exact⟨ad,xs[k],e,hb,List.getElem?_eq_getElem hl,hc k _ (List.getElem?_eq_getElem hl)⟩
theorem Reads.keep(h:Reads w B size A n xs)(hk: ∀p:Addr,p.block<B→w'.cell? p=w.cell? p):Reads w' B size A n xs:=
 ⟨h.1,fun hn=>by
  obtain⟨ad,e,hb,hc⟩:=h.2 hn;exact⟨ad,e,hb,fun j u hu=>(hk _ (by rw[block_of_add];exact hb)).trans (hc j u hu)⟩⟩
theorem Reads.more(h:Reads w B size A n xs)(hB:B≤B'):Reads w B' size A n xs:=
 ⟨h.1,fun hn=>by
  obtain⟨ad,e,hb,hc⟩:=h.2 hn;exact⟨ad,e,by omega,hc⟩⟩
theorem Reads.below(h:Reads w B size A n xs)(hb:Below B w w'):Reads w' B size A n xs:=h.keep fun _ hp=>hb.cell hp
theorem Reads.drew(h:Reads w B size A n xs):Reads w.drew B size A n xs:=h
theorem Reads.drewN(h:Reads w B size A n xs)(k:Nat):Reads (w.drewN k) B size A n xs:=h
theorem Reads.alloc(h:Reads w B size A n xs)(hB:B≤w.heap.size)(o:Obj):Reads (w.alloc o) B size A n xs:=h.keep fun p hp=>World.cell?_alloc_lt w o p (by omega)
theorem Reads.setCell(h:Reads w B size A n xs){p:Addr}(hB:B≤p.block)(u:Value):Reads (w.setCell p u) B size A n xs:=
 h.keep fun q hq=>World.cell?_setCell_other w p q u (fun e=>by subst e;omega)
theorem Reads.grown(h:Reads w B size A n xs){row:Option Nat}(hg:w.grownBy w' row)(hB:B≤w.heap.size)(hr: ∀g,row=some g→B≤g):Reads w' B size A n xs:=
 h.keep fun p hp=>World.cell?_of_block (hg.block p.block (by omega) (fun e=>by have:=hr _ e.symm;omega))
theorem Reads.cut(h:Reads w B size A n xs){k cap:Nat}(hk:k≤n)(hc:n≤cap):
  Reads w B size (if cap=k then A else A.map (·.add (k*size))) (n-k) (xs.drop (k*size)):=by
 refine⟨by rw[List.length_drop,h.1,Nat.sub_mul],fun hn=>?_⟩
 obtain⟨ad,rfl,hb,hcell⟩:=h.2 (by omega)
 rw[if_neg (by omega)]
 refine⟨ad.add (k*size),rfl,by rw[block_of_add];exact hb,fun j u hu=>?_⟩
 rw[add_of_add];exact hcell _ u (by rw[←hu,List.getElem?_drop])
theorem Reads.of_own{base:Nat}{e:TypeId}{c:Nat}(h:w.ownsRow base e size (.slice A n c) n xs):Reads w w.heap.size size A n xs:=by
 refine⟨h.1,fun hn=>?_⟩;obtain⟨g,cap,hv,_,hlt⟩:=h.form hn;have hA:A=some ⟨g,0,none⟩:=by injection hv
 subst hA;exact⟨_,rfl,hlt,h.cells (g:=g) rfl⟩
end
def Blk(w:World)(g:Nat)(t:TypeId)(cs:Array Value):Prop:=w.heap[g]? =some (.cells cs t (0,0))
section
variable {w w':World}{g:Nat}{t:TypeId}{cs:Array Value}
theorem Blk.lt(h:Blk w g t cs):g<w.heap.size:=by
 rcases Nat.lt_or_ge g w.heap.size with hlt|hge
 ·exact hlt
 ·unfold Blk at h;rw[Array.getElem?_eq_none hge]at h;cases h
theorem Blk.cell(h:Blk w g t cs)(i:Nat):w.cell? ⟨g,i,none⟩=cs[i]? :=cell_of_row w g i cs t (0,0) h
theorem Blk.frozen(h:Blk w g t cs)(i:Nat):w.frozen? ⟨g,i,none⟩=false:=by
 unfold Blk at h;simp[World.frozen?,h]
theorem Blk.new(w:World)(t:TypeId)(cs:Array Value):Blk (w.alloc (.cells cs t)) w.heap.size t cs:=heap_alloc_new w _
theorem Blk.drew(h:Blk w g t cs):Blk w.drew g t cs:=h
theorem Blk.drewN(h:Blk w g t cs)(n:Nat):Blk (w.drewN n) g t cs:=h
theorem Blk.alloc(h:Blk w g t cs)(o:Obj):Blk (w.alloc o) g t cs:=(Below.heap_alloc w o g h.lt).trans h
theorem Blk.set_(h:Blk w g t cs)(i:Nat)(u:Value):Blk (w.setCell ⟨g,i,none⟩ u) g t (cs.setIfInBounds i u):=by
 unfold Blk at h⊢;simp[World.setCell,Array.getElem?_modify,h]
theorem Blk.far(h:Blk w g t cs){p:Addr}(hp:g≠p.block)(u:Value):Blk (w.setCell p u) g t cs:=(Below.heap_setCell w p u g hp).trans h
theorem Blk.below{B:Nat}(h:Blk w g t cs)(hb:Below B w w')(hg:g<B):Blk w' g t cs:=(hb.block g hg).trans h
theorem Blk.grown{row:Option Nat}(h:Blk w g t cs)(hb:w.grownBy w' row)(hg:some g≠row):Blk w' g t cs:=(hb.block g h.lt hg).trans h
theorem Blk.ne_{g':Nat}{t':TypeId}{cs':Array Value}(h:Blk w g t cs)(h':Blk w g' t' cs')(hne:t≠t'):g≠g':=by
 rintro rfl;unfold Blk at h h';rw[h]at h';injection h' with h';injection h' with _ ht;exact hne ht
theorem own_blk_ne{base:Nat}{e:TypeId}{size n:Nat}{v:Value}{xs:List Value}(h:w.ownsRow base e size v n xs)(hg:Blk w g t cs)(hne:e≠t):v.ownBlock≠some g:=by
 rcases h.2 with⟨rfl,_⟩|⟨g',cap,cur,rfl,_,hh,_⟩
 ·simp[Value.ownBlock]
 ·intro he;have:g'=g:=by simpa[Value.ownBlock]using he
  subst this;exact Blk.ne_ (t:=e) hh hg hne rfl
end
theorem Blk.cell_{w:World}{g:Nat}{t:TypeId}{cs:Array Value}(h:Blk w g t cs)(i:Nat)(v:Value)(hv:cs[i]? =some v):w.cell? ⟨g,i,none⟩=some v:=(h.cell i).trans hv
theorem Blk.keep{w w':World}{g:Nat}{t:TypeId}{cs:Array Value}(h:Blk w g t cs)(hb:Below w.heap.size w w'):Blk w' g t cs:=h.below hb h.lt
section
variable {P:Program}(w:World)
theorem run_append_of_nil(base:Nat)(t ty e:TypeId)(i:TypeInfo)(size:Nat)(ht:P.underlying t=some (.slice e))(hi:P.info? e=some i)
  (v:Value) (n:Nat) (xs:List Value) (hown:w.ownsRow base e size v n xs) (c:Nat):(Builtin.append_ #[t,t] ty #[v,.slice none 0 c]).run P w= .ok v w:=by
 rcases hown.2 with⟨rfl,rfl⟩|⟨g,cap,cur,rfl,_,_,hnc,_⟩
 ·simp[Builtin.append_,run_underlying ht,sizeOf,typeInfo,hi,Builtin.lenOf,Builtin.firstCells]
 ·simp[Builtin.append_,run_underlying ht,sizeOf,typeInfo,hi,Builtin.lenOf,Builtin.firstCells,hnc,storeCells]
theorem run_append_any(base:Nat)(t ty e:TypeId)(i:TypeInfo)(z:Value)(size bytes:Nat)(ht:P.underlying t=some (.slice e))(hi:P.info? e=some i)(hz:i.zero=some z)
  (hsize:i.size=size) (hby:i.bytes=bytes) (hzs:z.cells.size=size) (hsz:0<size)
  (v:Value) (n:Nat) (xs:List Value) (hown:w.ownsRow base e size v n xs)
  (B:Nat) (A:Option Addr) (m c:Nat) (news:List Value) (hr:Reads w B size A m news) (h1: ∀u∈news,u.oneCell'=true)
  (h63:n+m≤maxLen) (hbytes:(n+m)*bytes≤140737488355328) (hbase:base≤w.heap.size):
  ∃v' w',(Builtin.append_ #[t,t] ty #[v,.slice A m c]).run P w= .ok v' w'∧w'.ownsRow base e size v' (n+m) (xs++news)∧w.grownBy w' v.ownBlock∧
   (v'.ownBlock=v.ownBlock∨v'.ownBlock=some w.heap.size):=by
 rcases A with _|ad
 ·have hm:m=0:=by
   rcases Nat.eq_zero_or_pos m with h0|h0
   ·exact h0
   ·obtain⟨ad,h,_⟩:=hr.2 h0;cases h
  subst hm;have hn:news=[]:=List.eq_nil_of_length_eq_zero (by simpa using hr.1)
  subst hn;exact⟨v,w,run_append_of_nil w base t ty e i size ht hi v n xs hown c,by simpa using hown,World.grownBy.refl w _,.inl rfl⟩
 ·have hcells: ∀j u,news[j]? =some u→w.cell? (ad.add j)=some u:=by
   intro j u hu;rcases Nat.eq_zero_or_pos m with h0|h0
   ·subst h0;have hn:news=[]:=List.eq_nil_of_length_eq_zero (by simpa using hr.1)
    subst hn;simp at hu
   ·obtain⟨ad',h,_,hc⟩:=hr.2 h0;injection h with h;subst h;exact hc j u hu
  obtain⟨v',w',hrun,h2,h3,_,h5⟩:=run_append_own_at (P:=P) w base t ty e i z size bytes ht hi hz hsize hby hzs hsz v n xs hown ad m c news hr.1 hcells h1 h63 hbytes hbase;exact⟨v',w',hrun,h2,h3,h5⟩
theorem wp_append_any{o:Oper}{a:Act}{K:Act→World→Prop}{Q:Exit→Act→World→Prop}(s x:Operand)(t:TypeId)
  (ho:o.op= .call {callee:=.builtin .append,args:=#[s,x],argTypes:=#[t,t]})
  (base:Nat) (e:TypeId) (i:TypeInfo) (z:Value) (size bytes:Nat) (ht:P.underlying t=some (.slice e)) (hi:P.info? e=some i) (hz:i.zero=some z)
  (hsize:i.size=size) (hby:i.bytes=bytes) (hzs:z.cells.size=size) (hsz:0<size)
  (v:Value) (n:Nat) (xs:List Value) (hs:a.eval s=v) (hown:w.ownsRow base e size v n xs)
  (B:Nat) (A:Option Addr) (m c:Nat) (news:List Value) (hx:a.eval x= .slice A m c) (hr:Reads w B size A m news) (h1: ∀u∈news,u.oneCell'=true)
  (h63:n+m≤maxLen) (hbytes:(n+m)*bytes≤140737488355328) (hbase:base≤w.heap.size)
  (h: ∀v' w',w'.ownsRow base e size v' (n+m) (xs++news)→w.grownBy w' v.ownBlock→(v'.ownBlock=v.ownBlock∨v'.ownBlock=some w.heap.size)→K (a.put o.dst v') w'):o.wp P a w K Q:=by
 obtain⟨v',w',hrun,h2,h3,h4⟩:=run_append_any (P:=P) w base t o.type e i z size bytes ht hi hz hsize hby hzs hsz v n xs hown B A m c news hr h1 h63 hbytes hbase;unfold Oper.wp execOp;simp only[ho,resolve,invoke,builtin,Sem.run_bind,Sem.run_pure,Result.andThen_ok,List.map_toArray,List.map_cons,List.map_nil,hs,hx,hrun];exact h v' w' h2 h3 h4
theorem wpList_append_any{ops:Array Oper}{rest:List Oper}{o:Oper}{a:Act}{Q:Exit→Act→World→Prop}(hgd:o.guard=none)(s x:Operand)(t:TypeId)
  (ho:o.op= .call {callee:=.builtin .append,args:=#[s,x],argTypes:=#[t,t]})
  (base:Nat) (e:TypeId) (i:TypeInfo) (z:Value) (size bytes:Nat) (ht:P.underlying t=some (.slice e)) (hi:P.info? e=some i) (hz:i.zero=some z)
  (hsize:i.size=size) (hby:i.bytes=bytes) (hzs:z.cells.size=size) (hsz:0<size)
  (v:Value) (n:Nat) (xs:List Value) (hs:a.eval s=v) (hown:w.ownsRow base e size v n xs)
  (B:Nat) (A:Option Addr) (m c:Nat) (news:List Value) (hx:a.eval x= .slice A m c) (hr:Reads w B size A m news) (h1: ∀u∈news,u.oneCell'=true)
  (h63:n+m≤maxLen) (hbytes:(n+m)*bytes≤140737488355328) (hbase:base≤w.heap.size)
  (h: ∀v' w',w'.ownsRow base e size v' (n+m) (xs++news)→w.grownBy w' v.ownBlock→(v'.ownBlock=v.ownBlock∨v'.ownBlock=some w.heap.size)→wpList P ops Q rest (a.put o.dst v') w'):wpList P ops Q (o::rest) a w:=
 wpList_plain hgd fun _ hK=>wp_append_any w s x t ho base e i z size bytes ht hi hz hsize hby hzs hsz v n xs hs hown B A m c news hx hr h1 h63 hbytes hbase fun v' w' h2 h3 h4=>hK _ _ (h v' w' h2 h3 h4)
end
def OwnO(w:World)(B:Nat)(e:TypeId)(size:Nat)(v:Value)(n:Nat)(xs:List Value):Prop:=
 xs.length=n*size∧
 ((v= .slice none 0 0∧n=0)∨
  ∃g off cap cur,v= .slice (some ⟨g,off,none⟩) n cap∧B≤g∧w.heap[g]? =some (.cells cur e (0,0))∧n≤cap∧cap≤maxLen∧off+cap*size≤cur.size∧(cur.toList.drop off).take (n*size)=xs)
section
variable {w w':World}{B:Nat}{e:TypeId}{size n:Nat}{v:Value}{xs:List Value}
theorem OwnO.nil(w:World)(B:Nat)(e:TypeId)(size:Nat):OwnO w B e size (.slice none 0 0) 0 []:=⟨by simp,.inl ⟨rfl,rfl⟩⟩
theorem OwnO.of_own(h:w.ownsRow B e size v n xs):OwnO w B e size v n xs:=by
 refine⟨h.1,h.2.imp id ?_⟩;rintro⟨g,cap,cur,e1,e2,e3,e4,e5,e6,e7⟩;exact⟨g,0,cap,cur,e1,e2,e3,e4,e5,by omega,by simpa using e7⟩
theorem OwnO.form(h:OwnO w B e size v n xs): ∃A c,v= .slice A n c∧n≤c:=by
 rcases h.2 with⟨rfl,rfl⟩|⟨g,off,cap,cur,rfl,_,_,hn,_⟩
 ·exact⟨_,_,rfl,Nat.le_refl _⟩
 ·exact⟨_,_,rfl,hn⟩
theorem OwnO.lt(h:OwnO w B e size v n xs): ∀k,v.ownBlock=some k→B≤k∧k<w.heap.size:=by
 intro k hk;rcases h.2 with⟨rfl,_⟩|⟨g,off,cap,cur,rfl,hB,hg,_⟩
 ·simp[Value.ownBlock]at hk
 ·have:g=k:=by simpa[Value.ownBlock]using hk
  subst this;exact⟨hB,(Array.getElem?_eq_some_iff.1 hg).1⟩
theorem OwnO.row(h:OwnO w B e size v n xs): ∀k,v.ownBlock=some k→∃cs,Blk w k e cs:=by
 intro k hk;rcases h.2 with⟨rfl,_⟩|⟨g,off,cap,cur,rfl,hB,hg,_⟩
 ·simp[Value.ownBlock]at hk
 ·have:g=k:=by simpa[Value.ownBlock]using hk
  subst this;exact⟨cur,hg⟩
theorem OwnO.keep(h:OwnO w B e size v n xs)(hk: ∀k,v.ownBlock=some k→w'.heap[k]? =w.heap[k]?):OwnO w' B e size v n xs:=by
 refine⟨h.1,h.2.imp id ?_⟩;rintro⟨g,off,cap,cur,rfl,e2,e3,r⟩;exact⟨g,off,cap,cur,rfl,e2,(hk g (by simp[Value.ownBlock])).trans e3,r⟩
theorem OwnO.below(h:OwnO w B e size v n xs)(hb:Below w.heap.size w w'):OwnO w' B e size v n xs:=h.keep fun k hk=>hb.block k (h.lt k hk).2
theorem OwnO.reads(h:OwnO w B e size v n xs): ∃A c,v= .slice A n c∧n≤c∧Reads w w.heap.size size A n xs:=by
 have hl:=h.1;rcases h.2 with⟨rfl,rfl⟩|⟨g,off,cap,cur,rfl,hB,hg,hn,hm,hc,hx⟩
 ·have:xs=[]:=List.eq_nil_of_length_eq_zero (by simpa using hl)
  subst this;exact⟨_,_,rfl,Nat.le_refl _,Reads.none_⟩
 ·refine⟨_,_,rfl,hn,hl,fun _=>⟨_,rfl,(Array.getElem?_eq_some_iff.1 hg).1,fun j u hj=>?_⟩⟩;have hlt:j<xs.length:=by
   rcases Nat.lt_or_ge j xs.length with h|h
   ·exact h
   ·rw[List.getElem?_eq_none h]at hj;cases hj
  rw[Addr.add_lit,cell_of_row w g (off+j) cur e (0,0) hg,←hj,←hx,List.getElem?_take_of_lt (by omega),List.getElem?_drop,Array.getElem?_toList]
theorem OwnO.cut{cap k:Nat}{A:Option Addr}(h:OwnO w B e size (.slice A n cap) n xs)(hk:k≤n):OwnO w B e size (.slice (if cap=k then A else A.map (·.add (k*size))) (n-k) (cap-k)) (n-k) (xs.drop (k*size)):=by
 have hl:=h.1;refine⟨by rw[List.length_drop,hl,Nat.sub_mul],?_⟩
 rcases h.2 with⟨e0,h0⟩|⟨g,off,cap',cur,e0,hB,hg,hn,hm,hc,hx⟩
 ·left;injection e0 with e1 e2 e3;have:k=0:=by omega
  subst this e1 e3;simp;omega
 ·injection e0 with e1 e2 e3;subst e1 e3;right;by_cases hck:cap=k
  ·rw[if_pos hck];have hnk:n=k:=by omega
   refine⟨g,off,cap-k,cur,rfl,hB,hg,by omega,by omega,by rw[hck,Nat.sub_self,Nat.zero_mul];have:=Nat.zero_le (cap*size);omega,?_⟩
   rw[hnk,Nat.sub_self,Nat.zero_mul,List.take_zero,List.drop_eq_nil_of_le (by rw[hl,hnk];exact Nat.le_refl _)]
  ·rw[if_neg hck];refine⟨g,off+k*size,cap-k,cur,by simp[Addr.add_lit],hB,hg,by omega,by omega,?_,?_⟩
   ·rw[Nat.sub_mul];have:k*size≤cap*size:=Nat.mul_le_mul_right _ (by omega)
    omega
   ·rw[←hx,List.drop_take,List.drop_drop,Nat.sub_mul]
end
section
variable {P:Program}(w:World)
theorem run_append_nilO(B:Nat)(t ty e:TypeId)(i:TypeInfo)(size:Nat)(ht:P.underlying t=some (.slice e))(hi:P.info? e=some i)
  (v:Value) (n:Nat) (xs:List Value) (hown:OwnO w B e size v n xs) (c:Nat):(Builtin.append_ #[t,t] ty #[v,.slice none 0 c]).run P w= .ok v w:=by
 rcases hown.2 with⟨rfl,rfl⟩|⟨g,off,cap,cur,rfl,_,_,hnc,_⟩
 ·simp[Builtin.append_,run_underlying ht,sizeOf,typeInfo,hi,Builtin.lenOf,Builtin.firstCells]
 ·simp[Builtin.append_,run_underlying ht,sizeOf,typeInfo,hi,Builtin.lenOf,Builtin.firstCells,hnc,storeCells]
theorem run_append_roomO(t ty e:TypeId)(i:TypeInfo)(ht:P.underlying t=some (.slice e))(hi:P.info? e=some i)
  (g off sLen sCap:Nat) (cur:Array Value) (hg:w.heap[g]? =some (.cells cur e (0,0)))
  (a:Addr) (m c:Nat) (news:List Value) (hl:news.length=m*i.size) (hnews: ∀j u,news[j]? =some u→w.cell? (a.add j)=some u) (h1: ∀u∈news,u.oneCell'=true)
  (hroom:sLen+m≤sCap) (hfit:off+sLen*i.size+news.length≤cur.size):
  (Builtin.append_ #[t,t] ty #[.slice (some ⟨g,off,none⟩) sLen sCap,.slice (some a) m c]).run P w=
   .ok (.slice (some ⟨g,off,none⟩) (sLen+m) sCap) (w.setRow g (cur.toList.take (off+sLen*i.size)++news++cur.toList.drop (off+sLen*i.size+news.length)).toArray):=by
 have hf:=run_firstCells_some (P:=P) w i.size m a m c news hl hnews;have hst:=run_storeCells_at P g (off+sLen*i.size) e news 0 cur w hg (by simpa using hfit) h1
 simp only[Nat.add_zero]at hst;simp[Builtin.append_,run_underlying ht,sizeOf,typeInfo,hi,Builtin.lenOf,hroom,hf,Addr.add_lit,hst]
theorem run_append_o(B:Nat)(t ty e:TypeId)(i:TypeInfo)(z:Value)(size bytes:Nat)(ht:P.underlying t=some (.slice e))(hi:P.info? e=some i)(hz:i.zero=some z)
  (hsize:i.size=size) (hby:i.bytes=bytes) (hzs:z.cells.size=size) (hsz:0<size)
  (v:Value) (n:Nat) (xs:List Value) (hown:OwnO w B e size v n xs)
  (D:Nat) (A:Option Addr) (m c:Nat) (news:List Value) (hr:Reads w D size A m news) (h1: ∀u∈news,u.oneCell'=true)
  (h63:n+m≤maxLen) (hbytes:(n+m)*bytes≤140737488355328) (hbase:B≤w.heap.size):
  ∃v' w',(Builtin.append_ #[t,t] ty #[v,.slice A m c]).run P w= .ok v' w'∧OwnO w' B e size v' (n+m) (xs++news)∧w.grownBy w' v.ownBlock∧
   (v'.ownBlock=v.ownBlock∨v'.ownBlock=some w.heap.size):=by
 subst hsize;subst hby;have hl:=hr.1;have hsmall:n+m≤9223372036854775807:=by simp only[maxLen]at h63;omega
 have hlen:(xs++news).length=(n+m)*i.size:=by rw[List.length_append,hown.1,hl,Nat.add_mul]
 by_cases hm0:m=0
 ·subst hm0;have hn:news=[]:=List.eq_nil_of_length_eq_zero (by simpa using hl)
  subst hn;rcases A with _|a
  ·exact⟨v,w,run_append_nilO w B t ty e i i.size ht hi v n xs hown c,by simpa using hown,World.grownBy.refl w _,.inl rfl⟩
  ·rcases hown.2 with⟨rfl,rfl⟩|⟨g,off,cap,cur,rfl,_,_,hnc,_⟩
   ·refine⟨.slice none 0 0,w,?_,by simpa using hown,World.grownBy.refl w _,.inl rfl⟩
    simp[Builtin.append_,run_underlying ht,sizeOf,typeInfo,hi,Builtin.lenOf,Builtin.firstCells,loadCells,loadCellsFrom]
   ·refine⟨.slice (some ⟨g,off,none⟩) n cap,w,?_,by simpa using hown,World.grownBy.refl w _,.inl rfl⟩
    simp[Builtin.append_,run_underlying ht,sizeOf,typeInfo,hi,Builtin.lenOf,Builtin.firstCells,loadCells,loadCellsFrom,hnc,storeCells]
 obtain⟨a,rfl,_,hnews⟩:=hr.2 (by omega)
 have grown: ∀(old:Nat),old<n+m→∀(row:Option Nat),
   OwnO (w.drew.alloc (.cells (xs.toArray++news.toArray++Builtin.zeroCells z.cells (grownCap w (n+m) old e-(n+m))) e)) B e i.size
    (.slice (some ⟨w.heap.size,0,none⟩) (n+m) (grownCap w (n+m) old e)) (n+m) (xs++news)∧
   w.grownBy (w.drew.alloc (.cells (xs.toArray++news.toArray++Builtin.zeroCells z.cells (grownCap w (n+m) old e-(n+m))) e)) row:=by
  intro old ho row;have hge:=grownCap_ge w (n+m) old e;have hcm:grownCap w (n+m) old e≤maxLen:=grownCap_le_maxLen w (n+m) old e h63;refine⟨⟨hlen,.inr ⟨w.heap.size,0,_,_,rfl,hbase,heap_alloc_new w.drew _,hge,hcm,?_,?_⟩⟩,⟨rfl,rfl,rfl,by simp,fun k hk _=>Below.heap_alloc w.drew _ k hk⟩⟩
  ·simp only[Array.size_append,List.size_toArray,size_zeroCells,hzs,hown.1,hl,←Nat.add_mul];have:n+m+(grownCap w (n+m) old e-(n+m))=grownCap w (n+m) old e:=by omega
   rw[this];omega
  ·simp only[Array.toList_append,List.append_assoc,List.drop_zero];rw[←List.append_assoc,←hlen];exact List.take_left
 rcases hown.2 with⟨rfl,rfl⟩|⟨g,off,cap,cur,rfl,hbg,hg,hnc,hcm,hcs,htake⟩
 ·have hx:xs=[]:=List.eq_nil_of_length_eq_zero (by simpa using hown.1)
  subst hx;have hr:=run_append_nil (P:=P) w t ty e i z ht hi hz a m c news hl hnews (by omega) (by omega) (by have hb:=hbytes;simp only[Nat.zero_add]at hb;omega)
  have hgr:=grown 0 (by omega) (Value.ownBlock (.slice none 0 0))
  simp only[Nat.zero_add,List.nil_append,Array.empty_append]at hgr⊢;exact⟨_,_,hr,hgr.1,hgr.2,Or.inr rfl⟩
 ·by_cases hroom:n+m≤cap
  ·have hmul:(n+m)*i.size≤cap*i.size:=Nat.mul_le_mul_right _ hroom;rw[Nat.add_mul]at hmul;have hfit:off+n*i.size+news.length≤cur.size:=by rw[hl];omega
   have hr:=run_append_roomO (P:=P) w t ty e i ht hi g off n cap cur hg a m c news hl hnews h1 hroom hfit;refine⟨_,_,hr,⟨hlen,.inr ⟨g,off,cap,_,rfl,hbg,setRow_heap w g cur _ e _ hg,hroom,hcm,?_,?_⟩⟩,⟨rfl,rfl,rfl,by simp,fun k _ hk=>setRow_other w g k _ (fun e=>hk (by simp[Value.ownBlock,e]))⟩,Or.inl rfl⟩
   ·simp only[List.size_toArray,List.length_append,List.length_take,List.length_drop,Array.length_toList];omega
   ·have hle:off+n*i.size≤cur.toList.length:=by rw[Array.length_toList];omega
    have e1:cur.toList.take (off+n*i.size)=cur.toList.take off++xs:=by
     rw[←htake,List.take_add]
    have e2:(cur.toList.take off).length=off:=by rw[List.length_take,Array.length_toList];omega
    rw[e1];simp only[List.append_assoc];rw[List.drop_left' e2,←List.append_assoc,←hlen];exact List.take_left
  ·obtain⟨A',c',e',_,hr0⟩:=hown.reads;have hn0:n≠0∨n=0:=by omega
   have holds: ∀j u,xs[j]? =some u→w.cell? ((⟨g,off,none⟩:Addr).add j)=some u:=by
    intro j u hj;injection e' with e1 _ _;rcases Nat.eq_zero_or_pos n with h0|h0
    ·have hx:xs=[]:=List.eq_nil_of_length_eq_zero (by rw[hown.1,h0,Nat.zero_mul])
     rw[hx]at hj;cases hj
    ·obtain⟨ad,e2,_,hc⟩:=hr0.2 h0;rw[←e1]at e2;injection e2 with e2;subst e2;exact hc j u hj
   have hr:=run_append_grow (P:=P) w t ty e i z ht hi hz ⟨g,off,none⟩ n cap xs hown.1 holds a m c news hl hnews (by omega) (by omega) (growslice_fits (by omega) hbytes)
   have hgr:=grown cap (by omega) (Value.ownBlock (.slice (some ⟨g,off,none⟩) n cap))
   exact⟨_,_,hr,hgr.1,hgr.2,Or.inr rfl⟩
theorem wp_append_o{o:Oper}{a:Act}{K:Act→World→Prop}{Q:Exit→Act→World→Prop}(s x:Operand)(t:TypeId)
  (ho:o.op= .call {callee:=.builtin .append,args:=#[s,x],argTypes:=#[t,t]})
  (B:Nat) (e:TypeId) (i:TypeInfo) (z:Value) (size bytes:Nat) (ht:P.underlying t=some (.slice e)) (hi:P.info? e=some i) (hz:i.zero=some z)
  (hsize:i.size=size) (hby:i.bytes=bytes) (hzs:z.cells.size=size) (hsz:0<size)
  (v:Value) (n:Nat) (xs:List Value) (hs:a.eval s=v) (hown:OwnO w B e size v n xs)
  (D:Nat) (A:Option Addr) (m c:Nat) (news:List Value) (hx:a.eval x= .slice A m c) (hr:Reads w D size A m news) (h1: ∀u∈news,u.oneCell'=true)
  (h63:n+m≤maxLen) (hbytes:(n+m)*bytes≤140737488355328) (hbase:B≤w.heap.size)
  (h: ∀v' w',OwnO w' B e size v' (n+m) (xs++news)→w.grownBy w' v.ownBlock→(v'.ownBlock=v.ownBlock∨v'.ownBlock=some w.heap.size)→K (a.put o.dst v') w'):o.wp P a w K Q:=by
 obtain⟨v',w',hrun,h2,h3,h4⟩:=run_append_o (P:=P) w B t o.type e i z size bytes ht hi hz hsize hby hzs hsz v n xs hown D A m c news hr h1 h63 hbytes hbase;unfold Oper.wp execOp;simp only[ho,resolve,invoke,builtin,Sem.run_bind,Sem.run_pure,Result.andThen_ok,List.map_toArray,List.map_cons,List.map_nil,hs,hx,hrun];exact h v' w' h2 h3 h4
end
open Go
def lowC(c:UInt8):Bool:=decide (97≤c.toNat)&&decide (c.toNat≤122)
def nameB(s:ByteArray):Bool:=decide (1≤s.size)&&decide (s.size≤8)&&s.data.toList.all lowC
def seenC(c:UInt8):Bool:=decide (33≤c.toNat)&&decide (c.toNat≤126)
def valueB(s:ByteArray):Bool:=decide (1≤s.size)&&decide (s.size≤20)&&s.data.toList.all seenC
structure St where
 k:Int
 key:ByteArray
 val:ByteArray
def St.none:St:=⟨0,⟨#[]⟩,⟨#[]⟩⟩
def isE(s:ByteArray):Bool:=s.toList.isEmpty
def wordsL:List ByteArray:=[⟨#[98,101,103,105,110]⟩,⟨#[99,111,109,109,105,116]⟩,⟨#[114,111,108,108,98,97,99,107]⟩,⟨#[114,101,115,101,116]⟩,⟨#[102,97,105,108]⟩,
 ⟨#[103,101,116]⟩,⟨#[114,101,97,100]⟩,⟨#[101,120,101,99]⟩,⟨#[115,101,116]⟩,⟨#[112,117,116]⟩,⟨#[112,114,101,112]⟩]
def kindOf(w:ByteArray):Int:=Lib.idxOfS wordsL w+1
def parts(t:ByteArray):List ByteArray:=Lib.splitB ⟨#[32]⟩ 0 2 t
def partAt(t:ByteArray)(i:Nat):ByteArray:=(parts t).getD i ⟨#[]⟩
def rawOf(t:ByteArray):St:=⟨kindOf (partAt t 0),partAt t 1,partAt t 2⟩
def bare(t:ByteArray):Bool:=(decide (1<(parts t).length)&&isE (partAt t 1))||(decide (2<(parts t).length)&&isE (partAt t 2))
def plainE(s:St):Int:=
 if s.k<1∨11<s.k then 3
 else if s.k<6 then(if isE s.key&&isE s.val then 0 else 4)
 else if !nameB s.key then 4
 else if s.k<9 then(if isE s.val then 0 else 4)
 else if valueB s.val then 0 else 4
def prepB(t:ByteArray):Bool:=
 decide (t.size≤60)&&!bare t&&(decide ((rawOf t).k=6)||decide ((rawOf t).k=7)||decide ((rawOf t).k=10))&&decide (plainE (rawOf t)=0)
def checkE(s:St):Int:=if s.k=11 then(if nameB s.key&&prepB s.val then 0 else 4)else plainE s
def readE(t:ByteArray):Int:=if 60<t.size then 1 else if kindOf (partAt t 0)=0 then 3 else if bare t then 4 else checkE (rawOf t)
def readS(t:ByteArray):St:=if readE t=0 then rawOf t else St.none
theorem idx_bd(x:ByteArray): ∀(zs:List ByteArray) (i:Nat),Lib.idxFromS zs x i= -1∨(0≤Lib.idxFromS zs x i∧Lib.idxFromS zs x i<i+zs.length)
 |[],i=>.inl rfl
 |z::zs,i=>by
  unfold Lib.idxFromS;by_cases h:z=x
  ·rw[if_pos h];exact .inr ⟨by omega,by simp;omega⟩
  ·rw[if_neg h];rcases idx_bd x zs (i+1)with h|⟨h1,h2⟩
   ·exact .inl h
   ·exact .inr ⟨h1,by simp;omega⟩
theorem kindOf_bd(w:ByteArray):0≤kindOf w∧kindOf w≤11:=by
 unfold kindOf Lib.idxOfS;rcases idx_bd w wordsL 0 with h|⟨h1,h2⟩
 ·rw[h];omega
 ·have:wordsL.length=11:=rfl;omega
theorem prep_read(t:ByteArray):prepB t=(decide (readE t=0)&&(decide ((readS t).k=6)||decide ((readS t).k=7)||decide ((readS t).k=10))):=by
 have hk:(rawOf t).k=kindOf (partAt t 0):=rfl;unfold prepB readS;by_cases hz:60<t.size
 ·have e:readE t=1:=by unfold readE;rw[if_pos hz]
  have d:decide (t.size≤60)=false:=by simp;omega
  rw[e,d];simp
 have d:decide (t.size≤60)=true:=by simp;omega
 rw[d];by_cases h0:kindOf (partAt t 0)=0
 ·have e:readE t=3:=by unfold readE;rw[if_neg hz,if_pos h0]
  rw[e,hk,h0];simp
 by_cases hb:bare t=true
 ·have e:readE t=4:=by unfold readE;rw[if_neg hz,if_neg h0,if_pos hb]
  rw[e,hb];simp
 have e:readE t=checkE (rawOf t):=by unfold readE;rw[if_neg hz,if_neg h0,if_neg hb]
 rw[e];simp only[Bool.not_eq_true]at hb;rw[hb];unfold checkE;by_cases h11:(rawOf t).k=11
 ·rw[if_pos h11];simp only[h11];split<;>simp[h11]
 ·rw[if_neg h11];by_cases hp:plainE (rawOf t)=0
  ·rw[if_pos hp,hp];simp
  ·rw[if_neg hp];simp[hp]
theorem indexB_short{s:ByteArray}(h:s.size=0):Lib.indexB s ⟨#[32]⟩= -1:=by
 have e:s=⟨#[]⟩:=by
  obtain⟨d⟩:=s;have:d=#[]:=Array.eq_empty_of_size_eq_zero h;rw[this]
 subst e;decide+kernel
theorem parts_eq(t:ByteArray):Lib.splitB ⟨#[32]⟩ 0 (min 3 (t.size+1)-1) t=parts t:=by
 unfold parts;by_cases h2:2≤t.size
 ·have e:min 3 (t.size+1)-1=2:=by omega
  rw[e]
 by_cases h0:t.size=0
 ·rw[Lib.splitB_miss _ _ _ _ (indexB_short h0),Lib.splitB_miss _ _ _ _ (indexB_short h0)]
 ·have e:min 3 (t.size+1)-1=1:=by omega
  rw[e];by_cases hm:Lib.indexB t ⟨#[32]⟩= -1
  ·rw[Lib.splitB_miss _ _ _ _ hm,Lib.splitB_miss _ _ _ _ hm]
  ·have e1:(⟨#[32]⟩:ByteArray).size=1:=rfl;have hr:(t.extract ((Lib.indexB t ⟨#[32]⟩).toNat+(⟨#[32]⟩:ByteArray).size) t.size).size=0:=by rw[ByteArray.size_extract,e1];omega
   have hb:¬ (Lib.indexB t ⟨#[32]⟩== -1)=true:=by simpa using hm
   show Lib.splitB _ _ (0+1) t=Lib.splitB _ _ (1+1) t;have hs: ∀k,Lib.splitB ⟨#[32]⟩ 0 (k+1) t=t.extract 0 ((Lib.indexB t ⟨#[32]⟩).toNat+0)::Lib.splitB ⟨#[32]⟩ 0 k (t.extract ((Lib.indexB t ⟨#[32]⟩).toNat+(⟨#[32]⟩:ByteArray).size) t.size):=fun k=>by rw[Lib.splitB,if_neg hb]
   rw[hs,hs,Lib.splitB_miss _ _ _ _ (indexB_short hr),Lib.splitB_miss _ _ _ _ (indexB_short hr)]
theorem parts_length(t:ByteArray):1≤(parts t).length∧(parts t).length≤3∧(parts t).length≤t.size+1:=by
 have h1:(parts t).length≤2+1:=Lib.splitB_length_le _ _ _ _;have h2:(Lib.splitB ⟨#[32]⟩ 0 (min 3 (t.size+1)-1) t).length≤min 3 (t.size+1)-1+1:=Lib.splitB_length_le _ _ _ _;rw[parts_eq]at h2;refine⟨?_,h1,by omega⟩
 unfold parts;cases hm:(Lib.indexB t ⟨#[32]⟩== -1)<;>simp[Lib.splitB,hm]
theorem split_le(sep:ByteArray): ∀(k:Nat) (s:ByteArray),∀x∈Lib.splitB sep 0 k s,x.size≤s.size
 |0,s,x,h=>by
  simp only[Lib.splitB_zero,List.mem_singleton]at h;rw[h];exact Nat.le_refl _
 |k+1,s,x,h=>by
  unfold Lib.splitB at h;split at h
  ·simp only[List.mem_singleton]at h;rw[h];exact Nat.le_refl _
  ·rcases List.mem_cons.1 h with rfl|h
   ·rw[ByteArray.size_extract];omega
   ·have:=split_le sep k _ x h;rw[ByteArray.size_extract]at this;omega
theorem part_size(t:ByteArray)(i:Nat):(partAt t i).size≤t.size:=by
 unfold partAt;by_cases h:i<(parts t).length
 ·simp only[List.getD,List.getElem?_eq_getElem h,Option.getD_some];exact split_le _ _ _ _ (List.getElem_mem h)
 ·rw[List.getD,List.getElem?_eq_none (by omega)]
  exact Nat.zero_le _
theorem part_lt{t:ByteArray}(h:kindOf (partAt t 0)=11):(partAt t 2).size<t.size:=by
 have hne:t.size≠0:=by
  intro h0;have e:t=⟨#[]⟩:=by
   obtain⟨d⟩:=t;have:d=#[]:=Array.eq_empty_of_size_eq_zero h0;rw[this]
  subst e;revert h
  decide+kernel
 by_cases h2:2<(parts t).length
 ·unfold partAt;simp only[List.getD,List.getElem?_eq_getElem h2,Option.getD_some];have hm:¬ (Lib.indexB t ⟨#[32]⟩== -1)=true:=by
   intro hm;have:(parts t).length=1:=by unfold parts;rw[Lib.splitB,if_pos hm];rfl
   omega
  have e1:(⟨#[32]⟩:ByteArray).size=1:=rfl;have hp:parts t=t.extract 0 ((Lib.indexB t ⟨#[32]⟩).toNat+0)::Lib.splitB ⟨#[32]⟩ 0 1 (t.extract ((Lib.indexB t ⟨#[32]⟩).toNat+(⟨#[32]⟩:ByteArray).size) t.size):=by
   unfold parts;rw[Lib.splitB,if_neg hm]
  have hx:(parts t)[2]∈Lib.splitB ⟨#[32]⟩ 0 1 (t.extract ((Lib.indexB t ⟨#[32]⟩).toNat+(⟨#[32]⟩:ByteArray).size) t.size):=by
   have:(parts t)[2]=(Lib.splitB ⟨#[32]⟩ 0 1 (t.extract ((Lib.indexB t ⟨#[32]⟩).toNat+(⟨#[32]⟩:ByteArray).size) t.size))[1]'(by rw[hp]at h2;simp only[List.length_cons]at h2;omega):=by
    simp only[hp,List.getElem_cons_succ]
   rw[this];exact List.getElem_mem _
  have:=split_le _ _ _ _ hx;rw[ByteArray.size_extract,e1]at this;omega
 ·unfold partAt;rw[List.getD,List.getElem?_eq_none (by omega)]
  show 0<t.size;omega
structure Pr where
 k:ByteArray
 v:ByteArray
def ltS(a b:ByteArray):Bool:=Op.bytesLess a.toList b.toList
theorem less_irrefl: ∀l:List UInt8,Op.bytesLess l l=false
 |[]=>rfl
 |a::l=>by simp[Op.bytesLess,less_irrefl l,UInt8.lt_irrefl]
theorem less_trans: ∀a b c:List UInt8,Op.bytesLess a b=true→Op.bytesLess b c=true→Op.bytesLess a c=true
 |_,_,[],_,h=>by simp[Op.bytesLess]at h
 |[],_,_::_,_,_=>by simp[Op.bytesLess]
 |_::_,[],_::_,h,_=>by simp[Op.bytesLess]at h
 |a::x,b::y,c::z,h1,h2=>by
  simp only[Op.bytesLess,Bool.or_eq_true,decide_eq_true_eq,Bool.and_eq_true,beq_iff_eq]at h1 h2⊢;rcases h1 with h1|⟨rfl,h1⟩<;>rcases h2 with h2|⟨rfl,h2⟩
  ·exact .inl (UInt8.lt_trans h1 h2)
  ·exact .inl h1
  ·exact .inl h2
  ·exact .inr ⟨rfl,less_trans x y z h1 h2⟩
theorem less_total: ∀a b:List UInt8,Op.bytesLess a b=false→Op.bytesLess b a=false→a=b
 |[],[],_,_=>rfl
 |[],_::_,h,_=>by simp[Op.bytesLess]at h
 |_::_,[],_,h=>by simp[Op.bytesLess]at h
 |a::x,b::y,h1,h2=>by
  simp only[Op.bytesLess,Bool.or_eq_false_iff,decide_eq_false_iff_not]at h1 h2;have e:a=b:=UInt8.le_antisymm (UInt8.not_lt.1 h2.1) (UInt8.not_lt.1 h1.1);subst e;have:=less_total x y (by simpa using h1.2) (by simpa using h2.2)
  rw[this]
theorem less_cmp: ∀a b:List UInt8,Lib.compareBytes a b=if Op.bytesLess a b=true then-1 else if Op.bytesLess b a=true then 1 else 0
 |[],[]=>by simp[Lib.compareBytes,Op.bytesLess]
 |[],_::_=>by simp[Lib.compareBytes,Op.bytesLess]
 |_::_,[]=>by simp[Lib.compareBytes,Op.bytesLess]
 |a::x,b::y=>by
  unfold Lib.compareBytes;simp only[Op.bytesLess,Bool.or_eq_true,decide_eq_true_eq,Bool.and_eq_true,beq_iff_eq];by_cases h1:a<b
  ·simp[h1]
  ·by_cases h2:b<a
   ·have:a≠b:=by rintro rfl;exact UInt8.lt_irrefl a h2
    simp[h1,h2,this]
   ·have e:a=b:=UInt8.le_antisymm (UInt8.not_lt.1 h2) (UInt8.not_lt.1 h1);subst e;simp[h1,less_cmp x y]
theorem bytes_eq{a b:ByteArray}(h:a.toList=b.toList):a=b:=by
 rw[ByteArray.toList_eq,ByteArray.toList_eq]at h;obtain⟨⟨x⟩⟩:=a;obtain⟨⟨y⟩⟩:=b;simp only at h;rw[h]
theorem ltS_irrefl(a:ByteArray):ltS a a=false:=less_irrefl _
theorem ltS_trans{a b c:ByteArray}(h1:ltS a b=true)(h2:ltS b c=true):ltS a c=true:=less_trans _ _ _ h1 h2
theorem ltS_total{a b:ByteArray}(h1:ltS a b=false)(h2:ltS b a=false):a=b:=bytes_eq (less_total _ _ h1 h2)
theorem ltS_ne{a b:ByteArray}(h:ltS a b=true):a≠b:=by rintro rfl;rw[ltS_irrefl]at h;cases h
def cmpS(a b:ByteArray):Int:=Lib.compareBytes a.data.toList b.data.toList
theorem cmpS_eq(a b:ByteArray):cmpS a b=if ltS a b=true then-1 else if ltS b a=true then 1 else 0:=by
 unfold cmpS ltS;rw[ByteArray.toList_eq,ByteArray.toList_eq];exact less_cmp _ _
theorem cmpS_neg(a b:ByteArray):decide (cmpS a b<0)=ltS a b:=by
 rw[cmpS_eq];cases h:ltS a b
 ·cases ltS b a<;>simp
 ·simp
theorem cmpS_zero(a b:ByteArray):(cmpS a b==0)=decide (a=b):=by
 rw[cmpS_eq,Bool.eq_iff_iff];simp only[beq_iff_eq,decide_eq_true_eq];constructor
 ·intro h;cases h1:ltS a b
  ·cases h2:ltS b a
   ·exact ltS_total h1 h2
   ·rw[h1,h2]at h;simp at h
  ·rw[h1]at h;simp at h
 ·rintro rfl;rw[ltS_irrefl];simp
def Sorted(l:List Pr):Prop:=l.Pairwise fun p q=>ltS p.k q.k=true
def hasK(l:List Pr)(k:ByteArray):Bool:=l.any fun p=>decide (p.k=k)
def atP(l:List Pr)(k:ByteArray):Option ByteArray:=(l.find? fun p=>decide (p.k=k)).map (·.v)
def posP(l:List Pr)(k:ByteArray):Nat:=l.countP fun p=>ltS p.k k
def plusP:List Pr→ByteArray→ByteArray→List Pr
 |[],k,v=>[⟨k,v⟩]
 |p::l,k,v=>if ltS p.k k=true then p::plusP l k v else⟨k,v⟩::(p::l).filter fun q=>!decide (q.k=k)
theorem hasK_atP(l:List Pr)(k:ByteArray):(atP l k).isSome=hasK l k:=by
 induction l with
 |nil=>rfl
 |cons p l ih=>
  unfold atP hasK at*;by_cases h:p.k=k<;>simp_all
theorem hasK_iff(l:List Pr)(k:ByteArray):hasK l k=true↔k∈l.map (·.k):=by
 unfold hasK;simp
theorem Sorted.tail{p:Pr}{l:List Pr}(h:Sorted (p::l)):Sorted l:=(List.pairwise_cons.1 h).2
theorem Sorted.head{p:Pr}{l:List Pr}(h:Sorted (p::l)): ∀q∈l,ltS p.k q.k=true:=(List.pairwise_cons.1 h).1
theorem Sorted.at_lt{l:List Pr}(h:Sorted l){i j:Nat}(hij:i<j)(hj:j<l.length):ltS (l[i]'(by omega)).k l[j].k=true:=
 List.pairwise_iff_getElem.1 h i j (by omega) hj hij
theorem Sorted.nodup{l:List Pr}(h:Sorted l):(l.map (·.k)).Nodup:=by
 unfold List.Nodup;rw[List.pairwise_map];exact h.imp fun h=>ltS_ne h
theorem pos_lt{l:List Pr}(h:Sorted l)(k:ByteArray): ∀(i:Nat) (hi:i<l.length),ltS l[i].k k=decide (i<posP l k):=by
 induction l with
 |nil=>intro i hi;simp at hi
 |cons p l ih=>
  intro i hi;have hs:=ih h.tail;unfold posP at*;rw[List.countP_cons];cases hp:ltS p.k k with
  |true=>
   rcases i with _|i
   ·simp[hp]
   ·have:=hs i (by simpa using hi)
    simp only[List.getElem_cons_succ,this];simp
  |false=>
   have hz:l.countP (fun q=>ltS q.k k)=0:=by
    rw[List.countP_eq_zero];intro q hq hqk;have:=ltS_trans (h.head q hq) hqk;rw[this]at hp;cases hp
   rw[hz];rcases i with _|i
   ·simp[hp]
   ·have:=hs i (by simpa using hi)
    rw[hz]at this;simp only[List.getElem_cons_succ,this];simp
theorem pos_le(l:List Pr)(k:ByteArray):posP l k≤l.length:=List.countP_le_length
theorem has_pos{l:List Pr}(h:Sorted l)(k:ByteArray):hasK l k=true↔ ∃hi:posP l k<l.length,l[posP l k].k=k:=by
 rw[hasK_iff];constructor
 ·intro hm;obtain⟨p,hp,rfl⟩:=List.mem_map.1 hm;obtain⟨i,hi,rfl⟩:=List.getElem_of_mem hp;have e:posP l l[i].k=i:=by
   have h1:=pos_lt h l[i].k i hi;rw[ltS_irrefl]at h1;have h2:¬ i<posP l l[i].k:=by simpa using h1.symm
   rcases Nat.lt_or_ge (posP l l[i].k) i with h3|h3
   ·have h4:=h.at_lt h3 hi;have h5:=pos_lt h l[i].k _ (Nat.lt_trans h3 hi);rw[h4]at h5;simp at h5
   ·omega
  simp only[e];exact⟨hi,trivial⟩
 ·rintro⟨hi,e⟩;exact List.mem_map.2 ⟨_,List.getElem_mem hi,e⟩
theorem at_pos{l:List Pr}(h:Sorted l)(k:ByteArray)(hi:posP l k<l.length)(e:l[posP l k].k=k):atP l k=some l[posP l k].v:=by
 induction l with
 |nil=>simp at hi
 |cons p l ih=>
  unfold atP posP at*;by_cases hp:p.k=k
  ·have hz:l.countP (fun q=>ltS q.k k)=0:=by
    rw[List.countP_eq_zero];intro q hq hqk;have:=ltS_trans (h.head q hq) hqk;rw[hp,ltS_irrefl]at this;cases this
   have hpl:ltS p.k k=false:=by rw[hp];exact ltS_irrefl k
   have hcnt:(p::l).countP (fun q=>ltS q.k k)=0:=by rw[List.countP_cons,hz,hpl];rfl
   simp[hp,hcnt]
  ·have hpl:ltS p.k k=true:=by
    cases hpl:ltS p.k k with
    |true=>rfl
    |false=>
     exfalso;have hz:l.countP (fun q=>ltS q.k k)=0:=by
      rw[List.countP_eq_zero];intro q hq hqk;have:=ltS_trans (h.head q hq) hqk;rw[hpl]at this;cases this
     have hcnt:(p::l).countP (fun q=>ltS q.k k)=0:=by rw[List.countP_cons,hz,hpl];rfl
     simp only[hcnt]at e;exact hp e
   have hcnt:(p::l).countP (fun q=>ltS q.k k)=l.countP (fun q=>ltS q.k k)+1:=by rw[List.countP_cons,hpl];rfl
   simp only[hcnt,List.getElem_cons_succ]at e⊢;rw[hcnt]at hi;have:=ih h.tail (by simpa using hi) e
   simp[hp,this]
theorem at_none{l:List Pr}{k:ByteArray}(h:hasK l k=false):atP l k=none:=by
 have:=hasK_atP l k;rw[h]at this;simpa using this
theorem plus_there{l:List Pr}(h:Sorted l)(k v:ByteArray)(hi:posP l k<l.length)(e:l[posP l k].k=k):plusP l k v=l.set (posP l k) ⟨k,v⟩:=by
 induction l with
 |nil=>simp at hi
 |cons p l ih=>
  unfold posP at*;unfold plusP;cases hpl:ltS p.k k with
  |true=>
   have hcnt:(p::l).countP (fun q=>ltS q.k k)=l.countP (fun q=>ltS q.k k)+1:=by rw[List.countP_cons,hpl];rfl
   simp only[hcnt,List.getElem_cons_succ]at e;rw[hcnt]at hi;rw[if_pos rfl,hcnt,List.set_cons_succ,ih h.tail (by simpa using hi) e]
  |false=>
   have hz:l.countP (fun q=>ltS q.k k)=0:=by
    rw[List.countP_eq_zero];intro q hq hqk;have:=ltS_trans (h.head q hq) hqk;rw[hpl]at this;cases this
   have hcnt:(p::l).countP (fun q=>ltS q.k k)=0:=by rw[List.countP_cons,hz,hpl];rfl
   simp only[hcnt,List.getElem_cons_zero]at e;rw[if_neg (by simp),hcnt,List.set_cons_zero]
   congr 1
   rw[List.filter_cons,if_neg (by simp[e])]
   rw[List.filter_eq_self];intro q hq;have:=ltS_ne (h.head q hq);rw[e]at this;simpa using Ne.symm this
theorem plus_new{l:List Pr}(h:Sorted l)(k v:ByteArray)(hn:hasK l k=false):plusP l k v=l.take (posP l k)++⟨k,v⟩::l.drop (posP l k):=by
 induction l with
 |nil=>rfl
 |cons p l ih=>
  unfold posP at*;unfold plusP;have hn2:p.k≠k∧hasK l k=false:=by
   unfold hasK at*;simpa using hn
  cases hpl:ltS p.k k with
  |true=>
   have hcnt:(p::l).countP (fun q=>ltS q.k k)=l.countP (fun q=>ltS q.k k)+1:=by rw[List.countP_cons,hpl];rfl
   rw[if_pos rfl,hcnt,ih h.tail hn2.2];rfl
  |false=>
   have hz:l.countP (fun q=>ltS q.k k)=0:=by
    rw[List.countP_eq_zero];intro q hq hqk;have:=ltS_trans (h.head q hq) hqk;rw[hpl]at this;cases this
   have hcnt:(p::l).countP (fun q=>ltS q.k k)=0:=by rw[List.countP_cons,hz,hpl];rfl
   rw[if_neg (by simp),hcnt]
   show _::List.filter _ (p::l)=⟨k,v⟩::p::l;congr 1
   rw[List.filter_eq_self];intro q hq;have:¬ k∈(p::l).map (·.k):=by
    intro hm;have:=(hasK_iff (p::l) k).2 hm;rw[hn]at this;cases this
   simp only[Bool.not_eq_true',decide_eq_false_iff_not];intro e;exact this (List.mem_map.2 ⟨q,hq,e⟩)
theorem plus_mem{l:List Pr}{k v:ByteArray}{q:Pr}(h:q∈plusP l k v):q=⟨k,v⟩∨(q∈l∧q.k≠k):=by
 induction l with
 |nil=>simp[plusP]at h;exact .inl h
 |cons p l ih=>
  unfold plusP at h;split at h
  ·rename_i hp;rcases List.mem_cons.1 h with rfl|h
   ·exact .inr ⟨List.mem_cons_self,ltS_ne hp⟩
   ·rcases ih h with h|⟨h1,h2⟩
    ·exact .inl h
    ·exact .inr ⟨List.mem_cons_of_mem _ h1,h2⟩
  ·rcases List.mem_cons.1 h with h|h
   ·exact .inl h
   ·have:=List.mem_filter.1 h;exact .inr ⟨this.1,by simpa using this.2⟩
theorem plus_self(l:List Pr)(k v:ByteArray):⟨k,v⟩∈plusP l k v:=by
 induction l with
 |nil=>simp[plusP]
 |cons p l ih=>
  unfold plusP;split
  ·exact List.mem_cons_of_mem _ ih
  ·exact List.mem_cons_self
theorem plus_keep{l:List Pr}{k v:ByteArray}{q:Pr}(h:q∈l)(hq:q.k≠k):q∈plusP l k v:=by
 induction l with
 |nil=>simp at h
 |cons p l ih=>
  unfold plusP;split
  ·rcases List.mem_cons.1 h with rfl|h
   ·exact List.mem_cons_self
   ·exact List.mem_cons_of_mem _ (ih h)
  ·refine List.mem_cons_of_mem _ (List.mem_filter.2 ⟨h,by simpa using hq⟩)
theorem plus_keys(l:List Pr)(k v x:ByteArray):x∈(plusP l k v).map (·.k)↔x=k∨x∈l.map (·.k):=by
 constructor
 ·intro h;obtain⟨q,hq,rfl⟩:=List.mem_map.1 h;rcases plus_mem hq with rfl|⟨h1,_⟩
  ·exact .inl rfl
  ·exact .inr (List.mem_map.2 ⟨q,h1,rfl⟩)
 ·rintro(rfl|h)
  ·exact List.mem_map.2 ⟨_,plus_self l x v,rfl⟩
  ·obtain⟨q,hq,rfl⟩:=List.mem_map.1 h;by_cases hk:q.k=k
   ·exact List.mem_map.2 ⟨⟨k,v⟩,plus_self l k v,hk.symm⟩
   ·exact List.mem_map.2 ⟨q,plus_keep hq hk,rfl⟩
theorem plus_sorted{l:List Pr}(h:Sorted l)(k v:ByteArray):Sorted (plusP l k v):=by
 induction l with
 |nil=>simp[plusP,Sorted]
 |cons p l ih=>
  unfold plusP;split
  ·rename_i hp;refine List.pairwise_cons.2 ⟨fun q hq=>?_,ih h.tail⟩;rcases plus_mem hq with rfl|⟨h1,_⟩
   ·exact hp
   ·exact h.head q h1
  ·rename_i hp;refine List.pairwise_cons.2 ⟨fun q hq=>?_,h.sublist List.filter_sublist⟩;obtain⟨h1,h2⟩:=List.mem_filter.1 hq;have h2:q.k≠k:=by simpa using h2
   simp only[Bool.not_eq_true]at hp;cases hk:ltS k q.k with
   |true=>rfl
   |false=>
    exfalso;have hqk:ltS q.k k=true:=by
     cases e:ltS q.k k with
     |true=>rfl
     |false=>exact absurd (ltS_total e hk) h2
    rcases List.mem_cons.1 h1 with rfl|h1
    ·rw[hqk]at hp;cases hp
    ·have:=ltS_trans (h.head q h1) hqk;rw[this]at hp;cases hp
theorem plus_length(l:List Pr)(k v:ByteArray)(h:Sorted l):(plusP l k v).length=if hasK l k=true then l.length else l.length+1:=by
 cases e:hasK l k with
 |true=>
  obtain⟨hi,e2⟩:=(has_pos h k).1 e;rw[if_pos rfl,plus_there h k v hi e2,List.length_set]
 |false=>
  rw[if_neg (by simp),plus_new h k v e,List.length_append,List.length_cons,List.length_take,List.length_drop]
  have:=pos_le l k;omega
section
variable {P:Program}{ops:Array Oper}{Q:Exit→Act→World→Prop}{md:Region.Mode}{S:World→Prop}{late:List Nat}
def anyL(P:Program)(md:Region.Mode)(ops:Array Oper)(Q:Exit→Act→World→Prop)(S:World→Prop)(late:List Nat):Nat→Array Bool→Act→World→Prop
 |0,done,a,w=>Region.ready md ops done=[]∧Q .normal a w
 |n+1,done,a,w=>(Region.ready md ops done=[]→Q .normal a w)∧
   ∀j,j∈Region.ready md ops done→wpOp P ops Q j (fun b u=>(j∉late→S u)∧anyL P md ops Q S late n (done.setIfInBounds j true) b u) a w
theorem anyL_any(n:Nat): ∀(done:Array Bool) (a:Act) (w:World),anyL P md ops Q S late n done a w→wpAny P md ops Q n done a w:=by
 induction n with
 |zero=>exact fun _ _ _ h=>h
 |succ n ih=>exact fun done a w h=>⟨h.1,fun j hj=>wpOp_mono (fun b u hb=>ih _ b u hb.2) (h.2 j hj)⟩
def waits(md:Region.Mode)(ops:Array Oper)(late:List Nat)(i:Nat):Bool:=
 late.all fun j=>match ops[j]? with
  |some o=>o.after.any fun e=>Region.binds md e&&(e.on==i)
  |none=>false
theorem waits_edge{i:Nat}(h:waits md ops late i=true){j:Nat}(hj:j∈late){o:Oper}(ho:ops[j]? =some o): ∃e∈o.after,Region.binds md e=true∧e.on=i:=by
 unfold waits at h;have:=List.all_eq_true.1 h j hj;rw[ho]at this;simp only[Array.any_eq_true,Bool.and_eq_true,beq_iff_eq]at this;obtain⟨k,hk,h1,h2⟩:=this;exact⟨_,Array.getElem_mem hk,h1,h2⟩
theorem open_of_ready{i:Nat}{done:Array Bool}(h:i∈Region.ready md ops done):done.getD i false=false:=by
 have h0:=(mem_ready.1 h).1;rcases Nat.lt_or_ge i done.size with hlt|hge
 ·simp[hlt]at h0⊢;exact h0
 ·simp[Array.getElem?_eq_none hge]
theorem not_late{i j:Nat}{done:Array Bool}(hw:waits md ops late i=true)(hi:i∈Region.ready md ops done)(hj:j∈Region.ready md ops done):j∉late:=by
 intro hl;obtain⟨_,o,ho,hall⟩:=mem_ready.1 hj;obtain⟨e,he,hb,hei⟩:=waits_edge hw hl ho;have h1:=hall e he hb;rw[hei,open_of_ready hi]at h1;cases h1
theorem anyL_first{i:Nat}{o:Oper}{v:Value}(ho:ops[i]? =some o)(hs: ∀(j:Nat) (q:Oper) cs b,ops[j]? =some q→q.op≠.select cs b)
  (hQ: ∀c a w,Q (.panic c) (a.put o.dst v) w→Q (.panic c) a w) (hw:waits md ops late i=true) (n:Nat):
  ∀(done:Array Bool) (a:Act) (w:World),
   (∀j q,ops[j]? =some q→j≠i→done.getD j true=false→(∀e∈q.after,Region.binds md e=true→e.on≠i)→o.apart ops q=true)→
   i∈Region.ready md ops done→YieldsIf P ops S o v a→S w→
   anyL P md ops Q S late n (done.setIfInBounds i true) (a.put o.dst v) w→anyL P md ops Q S late (n+1) done a w:=by
 induction n with
 |zero=>
  intro done a w _ hi hy hS h;refine⟨fun e=>(by rw[e]at hi;cases hi),fun j hj=>?_⟩
  rcases Nat.decEq j i with hne|rfl
  ·have hm:=ready_mono hj hne;rw[h.1]at hm;cases hm
  ·exact hy.wpOp ho hS ⟨fun _=>hS,h⟩
 |succ n ih=>
  intro done a w hf hi hy hS h;refine⟨fun e=>(by rw[e]at hi;cases hi),fun j hj=>?_⟩
  rcases Nat.decEq j i with hne|rfl
  ·obtain⟨hun,q,hq,hall⟩:=mem_ready.1 hj;have hno: ∀e∈q.after,Region.binds md e=true→e.on≠i:=by
    intro e he hb hei;have h1:=hall e he hb;rw[hei,open_of_ready hi]at h1;cases h1
   have hstep:=wpOp_putIf (S:=S) hq (hf j q hq hne hun hno) (fun cs b=>hs i o cs b ho) (fun cs b=>hs j q cs b hq) hQ hy (h.2 j (ready_mono hj hne));refine wpOp_mono (fun b u ⟨hy',hSu,hrest⟩=>⟨hSu,?_⟩) hstep;refine ih (done.setIfInBounds j true) b u (fun k r hr hki hk=>?_) (ready_mono hi (Ne.symm hne)) hy' (hSu (not_late hw hi hj)) ?_
   ·refine hf k r hr hki ?_;rcases Nat.decEq j k with hjk|rfl
    ·rwa[getD_set_ne true hjk]at hk
    ·exact hun
   ·rw[Array.setIfInBounds_comm _ _ hne];exact hrest
  ·exact hy.wpOp ho hS ⟨fun _=>hS,h⟩
theorem anyL_free{i:Nat}{o:Oper}{v:Value}(ho:ops[i]? =some o)(hs: ∀(j:Nat) (q:Oper) cs b,ops[j]? =some q→q.op≠.select cs b)
  (hQ: ∀c a w,Q (.panic c) (a.put o.dst v) w→Q (.panic c) a w) (hl:i∈late) (n:Nat):
  ∀(done:Array Bool) (a:Act) (w:World),
   (∀j q,ops[j]? =some q→j≠i→done.getD j true=false→(∀e∈q.after,Region.binds md e=true→e.on≠i)→o.apart ops q=true)→
   i∈Region.ready md ops done→YieldsIf P ops (fun _=>True) o v a→
   anyL P md ops Q S late n (done.setIfInBounds i true) (a.put o.dst v) w→anyL P md ops Q S late (n+1) done a w:=by
 induction n with
 |zero=>
  intro done a w _ hi hy h;refine⟨fun e=>(by rw[e]at hi;cases hi),fun j hj=>?_⟩
  rcases Nat.decEq j i with hne|rfl
  ·have hm:=ready_mono hj hne;rw[h.1]at hm;cases hm
  ·exact hy.wpOp ho trivial ⟨fun hn=>absurd hl hn,h⟩
 |succ n ih=>
  intro done a w hf hi hy h;refine⟨fun e=>(by rw[e]at hi;cases hi),fun j hj=>?_⟩
  rcases Nat.decEq j i with hne|rfl
  ·obtain⟨hun,q,hq,hall⟩:=mem_ready.1 hj;have hno: ∀e∈q.after,Region.binds md e=true→e.on≠i:=by
    intro e he hb hei;have h1:=hall e he hb;rw[hei,open_of_ready hi]at h1;cases h1
   have hstep:=wpOp_putIf (S:=fun _=>True) hq (hf j q hq hne hun hno) (fun cs b=>hs i o cs b ho) (fun cs b=>hs j q cs b hq) hQ hy (h.2 j (ready_mono hj hne));refine wpOp_mono (fun b u ⟨hy',hSu,hrest⟩=>⟨hSu,?_⟩) hstep;refine ih (done.setIfInBounds j true) b u (fun k r hr hki hk=>?_) (ready_mono hi (Ne.symm hne)) hy' ?_
   ·refine hf k r hr hki ?_;rcases Nat.decEq j k with hjk|rfl
    ·rwa[getD_set_ne true hjk]at hk
    ·exact hun
   ·rw[Array.setIfInBounds_comm _ _ hne];exact hrest
  ·exact hy.wpOp ho trivial ⟨fun hn=>absurd hl hn,h⟩
def Takes(P:Program)(ops:Array Oper)(S:World→Prop):List (Nat × Value)→Act→Prop
 |[],_=>True
 |(i,v)::l,a=>(match ops[i]? with|some o=>YieldsIf P ops S o v a∧Takes P ops S l (a.put o.dst v)|none=>False)
def putAll(ops:Array Oper):List (Nat × Value)→Act→Act
 |[],a=>a
 |(i,v)::l,a=>putAll ops l (match ops[i]? with|some o=>a.put o.dst v|none=>a)
def doneAll:List (Nat × Value)→Array Bool→Array Bool
 |[],d=>d
 |(i,_)::l,d=>doneAll l (d.setIfInBounds i true)
def takesB(md:Region.Mode)(ops:Array Oper)(late:List Nat):List Nat→Array Bool→Bool
 |[],_=>true
 |i::l,d=>Region.free md ops d i&&(Region.ready md ops d).contains i&&waits md ops late i&&takesB md ops late l (d.setIfInBounds i true)
theorem anyL_takes(hs:Region.noSelect ops=true)(hQ: ∀c a d v w,Q (.panic c) (Act.put a d v) w→Q (.panic c) a w): ∀(l:List (Nat × Value)) (n:Nat) (done:Array Bool) (a:Act) (w:World),
  takesB md ops late (l.map (·.1)) done=true→Takes P ops S l a→S w→anyL P md ops Q S late n (doneAll l done) (putAll ops l a) w→anyL P md ops Q S late (n+l.length) done a w
 |[],_,_,_,_,_,_,_,h=>h
 |(i,v)::l,n,done,a,w,hb,ht,hS,h=>by
  unfold Takes at ht;simp only[List.map_cons,takesB,Bool.and_eq_true]at hb;obtain⟨⟨⟨h1,h2⟩,h3⟩,h4⟩:=hb;cases ho:ops[i]? with
  |none=>rw[ho]at ht;exact ht.elim
  |some o=>
   rw[ho]at ht;obtain⟨hy,ht⟩:=ht;unfold putAll at h;rw[ho]at h;have:=anyL_takes hs hQ l n (done.setIfInBounds i true) (a.put o.dst v) w h4 ht hS h;exact anyL_first ho (Region.noSelect_spec hs) (fun c a w=>hQ c a _ _ w) h3 (n+l.length) done a w (Region.free_spec ho h1) (by simpa using h2) hy hS this
theorem anyL_take(hs:Region.noSelect ops=true)(hQ: ∀c a d v w,Q (.panic c) (Act.put a d v) w→Q (.panic c) a w)(l:List (Nat × Value))(n:Nat){N:Nat}{done:Array Bool}{a:Act}{w:World}(hN:N=n+l.length)
  (hb:takesB md ops late (l.map (·.1)) done=true) (ht:Takes P ops S l a) (hS:S w) (h:anyL P md ops Q S late n (doneAll l done) (putAll ops l a) w):anyL P md ops Q S late N done a w:=by
 subst hN;exact anyL_takes hs hQ l n done a w hb ht hS h
def freeB(md:Region.Mode)(ops:Array Oper)(late:List Nat):List Nat→Array Bool→Bool
 |[],_=>true
 |i::l,d=>Region.free md ops d i&&(Region.ready md ops d).contains i&&late.contains i&&freeB md ops late l (d.setIfInBounds i true)
theorem anyL_frees(hs:Region.noSelect ops=true)(hQ: ∀c a d v w,Q (.panic c) (Act.put a d v) w→Q (.panic c) a w): ∀(l:List (Nat × Value)) (n:Nat) (done:Array Bool) (a:Act) (w:World),
  freeB md ops late (l.map (·.1)) done=true→Takes P ops (fun _=>True) l a→anyL P md ops Q S late n (doneAll l done) (putAll ops l a) w→anyL P md ops Q S late (n+l.length) done a w
 |[],_,_,_,_,_,_,h=>h
 |(i,v)::l,n,done,a,w,hb,ht,h=>by
  unfold Takes at ht;simp only[List.map_cons,freeB,Bool.and_eq_true]at hb;obtain⟨⟨⟨h1,h2⟩,h3⟩,h4⟩:=hb;cases ho:ops[i]? with
  |none=>rw[ho]at ht;exact ht.elim
  |some o=>
   rw[ho]at ht;obtain⟨hy,ht⟩:=ht;unfold putAll at h;rw[ho]at h;have:=anyL_frees hs hQ l n (done.setIfInBounds i true) (a.put o.dst v) w h4 ht h;exact anyL_free ho (Region.noSelect_spec hs) (fun c a w=>hQ c a _ _ w) (by simpa using h3) (n+l.length) done a w (Region.free_spec ho h1) (by simpa using h2) hy this
theorem anyL_any_(hs:Region.noSelect ops=true)(hQ: ∀c a d v w,Q (.panic c) (Act.put a d v) w→Q (.panic c) a w)(l:List (Nat × Value))(n:Nat){N:Nat}{done:Array Bool}{a:Act}{w:World}(hN:N=n+l.length)
  (hb:freeB md ops late (l.map (·.1)) done=true) (ht:Takes P ops (fun _=>True) l a) (h:anyL P md ops Q S late n (doneAll l done) (putAll ops l a) w):anyL P md ops Q S late N done a w:=by
 subst hN;exact anyL_frees hs hQ l n done a w hb ht h
theorem anyL_take1{i:Nat}{v:Value}{o:Oper}{n:Nat}{done:Array Bool}{a:Act}{w:World}(ho:ops[i]? =some o)(hs:Region.noSelect ops=true)(hb:takesB md ops late [i] done=true)
  (hQ: ∀c a w,Q (.panic c) (a.put o.dst v) w→Q (.panic c) a w) (hy:YieldsIf P ops S o v a) (hS:S w) (h:anyL P md ops Q S late n (done.setIfInBounds i true) (a.put o.dst v) w):anyL P md ops Q S late (n+1) done a w:=by
 simp only[takesB,Bool.and_eq_true]at hb;obtain⟨⟨⟨h1,h2⟩,h3⟩,_⟩:=hb;exact anyL_first ho (Region.noSelect_spec hs) hQ h3 n done a w (Region.free_spec ho h1) (by simpa using h2) hy hS h
theorem anyL_one{i:Nat}{o:Oper}{n:Nat}{done:Array Bool}{a:Act}{w:World}(hr:Region.ready md ops done=[i])(ho:ops[i]? =some o)
  (h: ∀K:Act→World→Prop,Shut (∀b u,(i∉late→S u)→anyL P md ops Q S late n (done.setIfInBounds i true) b u→K b u)→if Region.wanted o (yielded ops a.tmps)=true then Oper.wp P o a w K Q else K (a.put o.dst undef) w):
  anyL P md ops Q S late (n+1) done a w:=by
 refine⟨fun e=>(by rw[e]at hr;cases hr),fun j hj=>?_⟩
 rw[hr,List.mem_singleton]at hj;subst hj;exact wpOp_step ho fun K hK=>h K fun b u h1 h2=>hK b u ⟨h1,h2⟩
theorem anyL_done{done:Array Bool}{a:Act}{w:World}(hr:Region.ready md ops done=[])(h:Q .normal a w): ∀n,anyL P md ops Q S late n done a w
 |0=>⟨hr,h⟩
 |_+1=>⟨fun _=>h,by rw[hr];simp⟩
theorem region_late{id:Nat}{a:Act}{w:World}(S:World→Prop)(late:List Nat)(hm:P.follows .mixedOrders=true)(h:anyL P .any ops Q S late ops.size (Array.replicate ops.size false) a w.drew):(Code.region id ops true).wp P Q a w:=
 wp_region_any hm (anyL_any _ _ _ _ h)
end
def msg(k:UInt8)(s:ByteArray):ByteArray:=⟨#[k,UInt8.ofNat s.size]⟩++s
def packS(k:UInt8)(s:ByteArray):ByteArray:=if 120<s.size then⟨#[]⟩else msg k s
def packE(s:ByteArray):Int:=if 120<s.size then 1 else 0
def whole(s:ByteArray):Prop:=∃h:1<s.size,2+(s[1]'h).toNat≤s.size
def stB(st:Int):ByteArray:=if st=0 then⟨#[73]⟩else if st=1 then⟨#[84]⟩else⟨#[70]⟩
def bodyB(k:Int)(t:ByteArray):ByteArray:=if k=1 then⟨#[111,107]⟩else if k=2 then⟨#[61]⟩++t else if k=3 then⟨#[110,111,110,101]⟩else⟨#[33]⟩++t
def headN(s:ByteArray):Nat:=2+(s.data.toList.getD 1 0).toNat
def wholeB(s:ByteArray):Bool:=decide (2≤s.size)&&decide (headN s≤s.size)
def kindAt(s:ByteArray):UInt8:=s.data.toList.getD 0 0
def textAt(s:ByteArray):ByteArray:=s.extract 2 (headN s)
def restAt(s:ByteArray):ByteArray:=s.extract (headN s) s.size
theorem msg_size(k:UInt8)(t:ByteArray):(msg k t).size=2+t.size:=by
 unfold msg;rw[ByteArray.size_append];rfl
theorem list_get{s:ByteArray}{i:Nat}(h:i<s.size):s[i]'h=s.data.toList[i]'(by simpa using h):=by simp;rfl
theorem whole_iff(s:ByteArray):wholeB s=true↔whole s:=by
 unfold wholeB whole headN;simp only[Bool.and_eq_true,decide_eq_true_eq];constructor
 ·rintro⟨h1,h2⟩;refine⟨by omega,?_⟩
  rw[list_get]
  have hl:1<s.data.toList.length:=by have:s.data.toList.length=s.size:=by simp
                                     omega
  rw[List.getD_eq_getElem?_getD,List.getElem?_eq_getElem hl]at h2;exact h2
 ·rintro⟨h1,h2⟩;refine⟨by omega,?_⟩
  rw[list_get]at h2;have hl:1<s.data.toList.length:=by simpa using h1
  rw[List.getD_eq_getElem?_getD,List.getElem?_eq_getElem hl];exact h2
theorem rest_lt{s:ByteArray}(h:wholeB s=true):(restAt s).size<s.size:=by
 unfold wholeB at h;simp only[Bool.and_eq_true,decide_eq_true_eq]at h;unfold restAt;rw[ByteArray.size_extract];have:2≤headN s:=by unfold headN;omega
 omega
theorem rest_le(s:ByteArray)(h:wholeB s=true):(restAt s).size+2≤s.size:=by
 unfold wholeB at h;simp only[Bool.and_eq_true,decide_eq_true_eq]at h;unfold restAt;rw[ByteArray.size_extract];have:2≤headN s:=by unfold headN;omega
 omega
def fitA(k:Int)(t:ByteArray)(st:Int):Bool:=
 decide (1≤k)&&decide (k≤4)&&decide (0≤st)&&decide (st≤2)&&(!(decide (k=2)||decide (k=4))==t.data.toList.isEmpty)&&decide (t.size≤60)
def tellS(k:Int)(t:ByteArray)(st:Int):ByteArray:=if fitA k t st=true then stB st++bodyB k t else⟨#[]⟩
theorem in_yes(n lo hi:Int)(w:World)(h1:lo≤n)(h2:n≤hi):
  Calls Tryz.prog 49 #[.int .i64 n,.int .i64 lo,.int .i64 hi] w fun e w'=>e= .returned (.bool true)∧w=w':=by
 have d:decide (n≤hi)=true:=by simpa using h2
 go_enter func49,ntmps49
 go_wp2
 go_ret;exact⟨rfl,rfl⟩
theorem in_no(n lo hi:Int)(w:World)(h:n<lo∨hi<n):
  Calls Tryz.prog 49 #[.int .i64 n,.int .i64 lo,.int .i64 hi] w fun e w'=>e= .returned (.bool false)∧w=w':=by
 by_cases h1:n<lo
 ·have d:decide (lo≤n)=false:=by simpa using h1
  go_enter func49,ntmps49
  go_wp2
  go_ret;exact⟨rfl,rfl⟩
 ·have h2:hi<n:=by omega
  have d:decide (n≤hi)=false:=by simpa using h2
  clear h;go_enter func49,ntmps49
  go_wp2
  go_ret;exact⟨rfl,rfl⟩
theorem gWords:Tryz.prog.globalNamed "tillerman/say.words" =some 0:=by kernel_rfl
structure Tabs(w:World):Prop where
 words: ∀i,i<11→w.cell? ⟨0,1+i,none⟩=some (.string (wordsL.getD i ByteArray.empty))
 maxLen: ∃m,w.cell? ⟨1,0,none⟩=some (.int .i64 m)
theorem Tabs.below{w w':World}(h:Tabs w)(hb:Below w.heap.size w w'):Tabs w':=
 ⟨fun i hi=>keep_cell hb (h.words i hi),by obtain⟨m,hm⟩:=h.maxLen;exact⟨m,keep_cell hb hm⟩⟩
theorem Tabs.alloc{w:World}(h:Tabs w)(o:Obj):Tabs (w.alloc o):=h.below (boxed w o)
def setupE(m s:Int):Int:=if m<1∨3<m then 3 else if s<1∨4<s then 2 else 0
theorem setup_any(m s:Int)(w:World):
  Calls Tryz.prog 41 #[.agg #[.int .i64 m,.int .i64 s]] w fun e w'=>e= .returned (.int .i64 (setupE m s))∧Below w.heap.size w w':=by
 unfold setupE;by_cases h1:m<1
 ·go_enter func41,ntmps41
  go_wp2
  go_ret;exact⟨by simp,boxed _ _⟩
 by_cases h2:3<m
 ·go_enter func41,ntmps41
  go_wp2
  go_ret;exact⟨by simp,boxed _ _⟩
 by_cases h3:s<1
 ·go_enter func41,ntmps41
  go_wp2
  go_ret;exact⟨by simp,boxed _ _⟩
 by_cases h4:4<s
 ·go_enter func41,ntmps41
  go_wp2
  go_ret;exact⟨by simp,boxed _ _⟩
 ·go_enter func41,ntmps41
  go_wp2
  go_ret;exact⟨by simp,boxed _ _⟩
theorem setupRef_any(m s:Int)(w:World):
  Calls Tryz.prog 48 #[.agg #[.int .i64 m,.int .i64 s]] w fun e w'=>e= .returned (.int .i64 (setupE m s))∧Below w.heap.size w w':=by
 unfold setupE;by_cases h1:m<1∨3<m
 ·go_enter func48,ntmps48
  go_wp2_with fail
  refine(in_no _ _ _ _ h1).mono ?_;rintro e w1 ⟨rfl,rfl⟩;go_wp2_with fail
  go_ret;exact⟨by simp,boxed _ _⟩
 by_cases h2:s<1∨4<s
 ·have hm:1≤m∧m≤3:=by omega
  go_enter func48,ntmps48
  go_wp2_with fail
  refine(in_yes _ _ _ _ hm.1 hm.2).mono ?_;rintro e w1 ⟨rfl,rfl⟩;go_wp2_with fail
  refine(in_no _ _ _ _ h2).mono ?_;rintro e w1 ⟨rfl,rfl⟩;go_wp2_with fail
  go_ret;exact⟨by simp,boxed _ _⟩
 ·have hm:1≤m∧m≤3:=by omega
  have hs:1≤s∧s≤4:=by omega
  go_enter func48,ntmps48
  go_wp2_with fail
  refine(in_yes _ _ _ _ hm.1 hm.2).mono ?_;rintro e w1 ⟨rfl,rfl⟩;go_wp2_with fail
  refine(in_yes _ _ _ _ hs.1 hs.2).mono ?_;rintro e w1 ⟨rfl,rfl⟩;go_wp2_with fail
  go_ret;exact⟨by simp,boxed _ _⟩
end Go.Proofs.YtjbnfigpflambacGreatDoor
