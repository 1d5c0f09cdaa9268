/- slices.Insert at pairs, into a slice of the call's own. back.with. slices.Equal on pairs: whether they are the same. pool.put. Conditions: those of each lemma. -/
import Derived.Test.YtjbnfigpflambacGreatDoorH05
import Derived.Test.YtjbnfigpflambacGreatDoorH08
import Derived.Laws.Externs
namespace Go.Proofs.YtjbnfigpflambacGreatDoor
set_option maxRecDepth 100000
set_option maxHeartbeats 16000000
open _root_.Go.Proofs.Tryz
open Go.ChangeShapes Go.WideShapes Go.ChangeAt Go.RowKit
theorem cellsP_append(l m:List Pr):cellsP (l++m)=cellsP l++cellsP m:=by unfold cellsP;rw[List.flatMap_append]
theorem cellsP_take(l:List Pr)(i:Nat):(cellsP l).take (i*2)=cellsP (l.take i):=by
 induction l generalizing i with
 |nil=>simp[cellsP]
 |cons p l ih=>
  have e:cellsP (p::l)= .string p.k::.string p.v::cellsP l:=rfl;rcases i with _|i
  ·rfl
  ·have e1:(i+1)*2=i*2+2:=by omega
   rw[e,e1,List.take_succ_cons,List.take_succ_cons,ih i];rfl
theorem cellsP_drop(l:List Pr)(i:Nat):(cellsP l).drop (i*2)=cellsP (l.drop i):=by
 induction l generalizing i with
 |nil=>simp[cellsP]
 |cons p l ih=>
  have e:cellsP (p::l)= .string p.k::.string p.v::cellsP l:=rfl;rcases i with _|i
  ·rfl
  ·have e1:(i+1)*2=i*2+2:=by omega
   rw[e,e1,List.drop_succ_cons,List.drop_succ_cons,ih i];rfl
def insP(l:List Pr)(i:Nat)(p:Pr):List Pr:=l.take i++p::l.drop i
theorem insP_length(l:List Pr)(i:Nat)(p:Pr)(h:i≤l.length):(insP l i p).length=l.length+1:=by
 unfold insP;rw[List.length_append,List.length_take,List.length_cons,List.length_drop];omega
theorem insP_cells(l:List Pr)(i:Nat)(p:Pr):cellsP (insP l i p)=(cellsP l).take (i*2)++[.string p.k,.string p.v]++(cellsP l).drop (i*2):=by
 rw[cellsP_take,cellsP_drop];unfold insP;rw[cellsP_append];have e:cellsP (p::l.drop i)=[.string p.k,.string p.v]++cellsP (l.drop i):=rfl;rw[e,List.append_assoc]
theorem insP_fits{l:List Pr}{i:Nat}{p:Pr}(h:Fits l)(hl:l.length<4398046510976)(hp:p.k.size≤maxLen∧p.v.size≤maxLen)(hi:i≤l.length):Fits (insP l i p):=by
 refine⟨by rw[insP_length l i p hi];omega,fun q hq=>?_⟩
 unfold insP at hq;rcases List.mem_append.1 hq with hq|hq
 ·exact h.2 q (List.mem_of_mem_take hq)
 ·rcases List.mem_cons.1 hq with rfl|hq
  ·exact hp
  ·exact h.2 q (List.mem_of_mem_drop hq)
theorem own_of_row{w:World}{B g n cap:Nat}{cur:Array Value}{xs:List Value}(hB:B≤g)(hg:w.heap[g]? =some (.cells cur 60 (0,0)))(hn:n≤cap)(hc:cap≤maxLen)(hs:cur.size=cap*2)(hx:cur.toList.take (n*2)=xs)(hl:xs.length=n*2):
  w.ownsRow B 60 2 (.slice (some ⟨g,0,none⟩) n cap) n xs:=⟨hl,.inr ⟨g,cap,cur,rfl,hB,hg,hn,hc,hs,hx⟩⟩
theorem rd_row{w:World}{g:Nat}{cur:Array Value}{t:TypeId}(hg:w.heap[g]? =some (.cells cur t (0,0)))(o:Nat)(cs:List Value)(h: ∀j v,cs[j]? =some v→cur[o+j]? =some v): ∀j v,cs[j]? =some v→w.cell? ((⟨g,o,none⟩:Addr).add j)=some v:=by
 intro j v hv;have e:(⟨g,o,none⟩:Addr).add j=⟨g,o+j,none⟩:=by unfold Addr.add;split<;>simp_all
 rw[e];exact(cell_of_row w g (o+j) cur t (0,0) hg).trans (h j v hv)
theorem pair_size:(Tryz.prog.info? 60).map (·.size)=some 2:=by
 obtain⟨i0,hi0,hz0,hz1,hz2⟩:=info_parts pair_info;rw[hi0];simp[hz1]
theorem setRow_at{w:World}{g:Nat}{cur cur':Array Value}{t:TypeId}(hg:w.heap[g]? =some (.cells cur t (0,0))):(w.setRow g cur').heap[g]? =some (.cells cur' t (0,0)):=setRow_heap w g cur cur' t (0,0) hg
theorem insert_end(w:World)(B:Nat)(v:Value)(l:List Pr)(vb c:Nat)(p:Pr)(h:OPL w B v l)(hl:l.length<4398046510976)(hp:p.k.size≤maxLen∧p.v.size≤maxLen)(hB:B≤w.heap.size)
  (hv:Blk w vb 60 #[.string p.k,.string p.v]):
  Calls Tryz.prog 128 #[v,.int .i64 (l.length:Nat),.slice (some ⟨vb,0,none⟩) 1 c] w fun e w'=>∃v',e= .returned v'∧OPL w' B v' (insP l l.length p)∧Below B w w':=by
 obtain⟨i0,hi0,hz0,hz1,hz2⟩:=info_parts pair_info;obtain⟨A,cap,rfl⟩:=h.form;have HO:=Hd h;have hfit:=insP_fits (i:=l.length) h.fits hl hp leR;have hcap:(l.length:Int)≤cap:=by
  obtain⟨A',c',e,hc,_⟩:=h.pl;injection e with e1 e2 e3;omega
 have hrd:Reads w (vb+1) 2 (some ⟨vb,0,none⟩) 1 [.string p.k,.string p.v]:=⟨rfl,fun _=>⟨_,rfl,Nat.lt_succ_self _,fun j u hu=>rd_row hv 0 [.string p.k,.string p.v] (fun j v h=>by simpa using h) j u hu⟩⟩
 have HR:=Hd hrd;have HF:=Hd hfit;have e:insP l l.length p=l++[p]:=by unfold insP;rw[List.take_length,List.drop_length]
 have HE:=Hd e;obtain⟨n,hN⟩: ∃n,l.length=n:=⟨_,rfl⟩;have hown:=h.own;rw[hN]at hl hcap hown⊢;have HN:=Hd hN;have HW:=Hd hown;have q1:((n:Int)==(n:Int))=true:=by simp
 have q2:(0:Int)≤(n:Int):=by omega
 clear h hv hfit hrd hN e hown;by_cases hcn:cap=n;all_goals
  go_enter func128,ntmps128
  go_wp2_with (at_builtin;refine wpList_append_any _ rfl (.tmp 23) (.tmp 24) 27 rfl B 60 i0 _ 2 32 underlying27 hi0 hz0 hz1 hz2 rfl (by decide) (.slice A n cap) n (cellsP l) rfl HW.out (vb+1) (some ⟨vb,0,none⟩) 1 c [.string p.k,.string p.v] rfl HR.out (by intro u hu;simp only[List.mem_cons,List.not_mem_nil,or_false]at hu;rcases hu with rfl|rfl<;>rfl) (by unfold maxLen;omega) (by omega) hB ?_;intro v' w1 hown1 hgr hat)
  have hb:Below B w w1:=bR.grown hgr hB (fun k hk=>(HW.out.lt k hk).1);have HB:=Hd hb;have HW1:=Hd hown1;clear hown1 hgr hat hb;go_wp2_with fail
  go_ret;refine⟨_,rfl,⟨?_,by rw[←HN.out];exact HF.out⟩,HB.out⟩
  have e1:(insP l n p).length=n+1:=by rw[←HN.out];exact insP_length _ _ _ leR
  have e2:cellsP (insP l n p)=cellsP l++[.string p.k,.string p.v]:=by rw[←HN.out,HE.out,cellsP_append];rfl
  rw[e1,e2];exact HW1.out
theorem noOverlap(w:World)(g vb c lb cb o:Nat)(cur cs:Array Value)(t:TypeId)(hg:w.heap[g]? =some (.cells cur 60 (0,0)))(hv:Blk w vb t cs)(hne:vb≠g)(h0:cur.size≠0):
  (callFunc 144 #[.slice (some ⟨vb,0,none⟩) 1 c,.slice (some ⟨g,o,none⟩) lb cb]).run Tryz.prog w= .ok (.value (.bool false)) w:=by
 obtain⟨i0,hi0,hz0,hz1,hz2⟩:=info_parts pair_info;have hz: ∀w,(Go.sizeOf 60).run Tryz.prog w= .ok 2 w:=fun w=>by rw[Calm.run_sized hi0,hz1]
 have hs1:w.shape? vb=some (t,cs.size):=by unfold Blk at hv;simp[World.shape?,hv]
 have hs2:w.shape? g=some (60,cur.size):=by simp[World.shape?,hg]
 rw[run_callFunc_extern func144 (by kernel_rfl) (by kernel_rfl) (by kernel_rfl) (e:=Extern.SlicesOverlaps.overlaps #[27,27] #[4]) (by kernel_rfl),
  Lib.run_overlaps_apart w 27 4 60 underlying27 2 hz ⟨vb,0,none⟩ ⟨g,o,none⟩ 1 c lb cb hne _ _ _ _ hs1 hs2 h0 (hv.frozen 0) (hv.frozen cs.size)]
 rfl
theorem insert_shift(w:World)(B g n cap i:Nat)(cur:Array Value)(l:List Pr)(vb c:Nat)(p:Pr)(hg:w.heap[g]? =some (.cells cur 60 (0,0)))(hBg:B≤g)(hn:l.length=n)(hcap:n+1≤cap)(hmax:cap≤maxLen)(hcs:cur.size=cap*2)
  (hx:cur.toList.take (n*2)=cellsP l) (hfit:Fits l) (hl:n<4398046510976) (hp:p.k.size≤maxLen∧p.v.size≤maxLen) (hi:i<n) (hB:B≤w.heap.size)
  (hv:Blk w vb 60 #[.string p.k,.string p.v]) (hne:vb≠g):
  Calls Tryz.prog 128 #[.slice (some ⟨g,0,none⟩) n cap,.int .i64 (i:Nat),.slice (some ⟨vb,0,none⟩) 1 c] w fun e w'=>∃v',e= .returned v'∧OPL w' B v' (insP l i p)∧Below B w w':=by
 have hov:=fun lb cb o=>noOverlap w g vb c lb cb o cur #[.string p.k,.string p.v] 60 hg hv hne (by omega)
 have hXl:(cellsP l).length=n*2:=by rw[cellsP_length,hn]
 have hsz:cur.toList.length=cap*2:=by rw[Array.length_toList,hcs]
 have hcur:cur.toList=cellsP l++cur.toList.drop (n*2):=by rw[←hx,List.take_append_drop]
 have hdl:((cellsP l).drop (i*2)).length=(n-i)*2:=by rw[List.length_drop,hXl];omega
 obtain⟨cur1,hc1⟩: ∃cur1:Array Value,cur1=(cur.toList.take ((i+1)*2)++(cellsP l).drop (i*2)++cur.toList.drop ((i+1)*2+((cellsP l).drop (i*2)).length)).toArray:=⟨_,rfl⟩;have hs1:cur1.size=cap*2:=by
  rw[hc1];simp only[List.size_toArray,List.length_append,List.length_take,List.length_drop,hdl,hsz];omega
 have hcp1: ∀ty dc sc,(Builtin.copy_ #[27,27] ty #[.slice (some ⟨g,(i+1)*2,none⟩) (n-i) dc,.slice (some ⟨g,i*2,none⟩) (n+1-i) sc]).run Tryz.prog w.drew= .ok (goInt (Nat.min (n+1-i) (n-i))) (w.drew.setRow g cur1):=fun ty dc sc=>by
  rw[hc1];refine run_copy_rowN w.drew _ _ ty 60 g _ _ _ _ _ _ cur 60 ((cellsP l).drop (i*2)) 2 underlying27 pair_size hg ?_ ?_ ?_ (fun u hu=>cellsP_one _ u (List.mem_of_mem_drop hu))
  ·rw[hdl,show(n+1-i).min (n-i)=n-i from Nat.min_eq_right (by omega)]
  ·refine rd_row hg _ _ fun j u hj=>?_;rw[←Array.getElem?_toList,hcur,List.getElem?_append_left (by have:=(List.getElem?_eq_some_iff.1 hj).1;omega),←hj,List.getElem?_drop]
  ·rw[hdl,hcs];omega
 obtain⟨W1,hW1⟩: ∃W1,W1=w.drew.setRow g cur1:=⟨_,rfl⟩;have hg1:W1.heap[g]? =some (.cells cur1 60 (0,0)):=by rw[hW1];exact setRow_at (w:=w.drew) hg
 have hb1:w.grownBy W1 (some g):=by
  rw[hW1];exact⟨rfl,rfl,rfl,(grown_setRow w.drew g cur1).size,(grown_setRow w.drew g cur1).block⟩
 have hv1:Blk W1 vb 60 #[.string p.k,.string p.v]:=hv.grown hb1 (fun e=>hne (by injection e))
 rw[←hW1]at hcp1;obtain⟨cur2,hc2⟩: ∃cur2:Array Value,cur2=(cur1.toList.take (i*2)++[Value.string p.k,Value.string p.v]++cur1.toList.drop (i*2+2)).toArray:=⟨_,rfl⟩;have hs2:cur2.size=cap*2:=by
  rw[hc2];simp only[List.size_toArray,List.length_append,List.length_take,List.length_drop,Array.length_toList,hs1,List.length_cons,List.length_nil];omega
 have hcp2: ∀ty dc,(Builtin.copy_ #[27,27] ty #[.slice (some ⟨g,i*2,none⟩) (n+1-i) dc,.slice (some ⟨vb,0,none⟩) 1 c]).run Tryz.prog W1= .ok (goInt (Nat.min 1 (n+1-i))) (W1.setRow g cur2):=fun ty dc=>by
  rw[hc2];refine run_copy_rowN W1 _ _ ty 60 g _ _ _ _ _ _ cur1 60 [.string p.k,.string p.v] 2 underlying27 pair_size hg1 ?_ ?_ ?_ (by intro u hu;simp only[List.mem_cons,List.not_mem_nil,or_false]at hu;rcases hu with rfl|rfl<;>rfl)
  ·rw[show Nat.min 1 (n+1-i)=1 from Nat.min_eq_left (by omega)];rfl
  ·exact rd_row hv1 0 [.string p.k,.string p.v] (fun j v h=>by simpa using h)
  ·rw[hs1];show i*2+2≤_;omega
 obtain⟨W2,hW2⟩: ∃W2,W2=W1.setRow g cur2:=⟨_,rfl⟩;have hg2:W2.heap[g]? =some (.cells cur2 60 (0,0)):=by rw[hW2];exact setRow_at hg1
 have hb2:W1.grownBy W2 (some g):=by rw[hW2];exact grown_setRow W1 g cur2
 rw[←hW2]at hcp2;have hfin:OPL W2 B (.slice (some ⟨g,0,none⟩) (n+1) cap) (insP l i p):=by
  have e1:(insP l i p).length=n+1:=by rw[insP_length l i p (by omega),hn]
  refine⟨?_,insP_fits hfit (by omega) hp (by omega)⟩
  rw[e1];refine own_of_row hBg hg2 hcap hmax hs2 ?_ (by rw[cellsP_length,e1])
  rw[insP_cells,hc2,hc1];have:=shift_list (cellsP l) (cur.toList.drop (n*2)) [.string p.k,.string p.v] i n hXl hi rfl (by rw[List.length_drop,hsz];omega)
  simp only at this;rw[←hcur]at this;simpa using this
 have hbel:Below B w W2:=(bR.grown hb1 hB (fun k hk=>by injection hk with hk;omega)).grown hb2 (Nat.le_trans hB hb1.size) (fun k hk=>by injection hk with hk;omega)
 have HF:=Hd hfin;have HB:=Hd hbel;have H1:=Hd hcp1;have H2:=Hd hcp2;unfold maxLen at hmax;have q1:((i:Int)==(n:Int))=false:=by simp;omega
 have q2:((n:Int)+1≤(cap:Int)):=by omega
 have q3:(i:Int)<(n:Int):=by omega
 have q4:(0:Int)≤(i:Int):=by omega
 have q5:¬ (cap=i):=by omega
 have q6:¬ (cap=i+1):=by omega
 have q7:IntKind.i64.wrap ((i:Int)+1)=(i:Int)+1:=IntWalk.i64_in _ (by omega)
 have q8:((i:Int)+1).toNat=i+1:=by omega
 have q9:IntKind.i64.wrap ((n:Int)+1)=(n:Int)+1:=IntWalk.i64_in _ (by omega)
 have q10:((n:Int)+1).toNat=n+1:=by omega
 have q11:n+1-(i+1)=n-i:=by omega
 clear hfin hbel hcp1 hcp2 hg2 hb2 hW2 hs2 hc2 hv1 hb1 hg1 hW1 hs1 hc1 hdl hcur hsz hXl hx hcs hfit hv hg hn hBg;go_enter func128,ntmps128
 go_wp2_with (simp only[hov])
 refine region_sg [8] ?_;refine anyB_sg [0,1,2,3,4,5,6,7] 1 ?_;go_wp2_with fail
 refine sg_o ?_;refine anyB_on 8 fun K hK=>?_;rw[if_pos (by rfl)]
 refine wp_copy_run _ (.tmp 73) (.tmp 76) 27 27 rfl _ _ (by rfl) (by rfl) (H1.out _ _ _) ?_
 refine lateK hK ?_;clear hK K;refine anyB_dn ?_;have h2:=H2.out;go_wp2_with fail
 clear h2;go_ret;exact⟨_,rfl,HF.out,HB.out⟩
theorem insert_grow(w:World)(B g n i:Nat)(cur:Array Value)(l:List Pr)(vb c:Nat)(p:Pr)(hg:w.heap[g]? =some (.cells cur 60 (0,0)))(hn:l.length=n)
  (hx:cur.toList.take (n*2)=cellsP l) (hfit:Fits l) (hl:n<4398046510976) (hp:p.k.size≤maxLen∧p.v.size≤maxLen) (hi:i<n) (hB:B≤w.heap.size)
  (hv:Blk w vb 60 #[.string p.k,.string p.v]):
  Calls Tryz.prog 128 #[.slice (some ⟨g,0,none⟩) n n,.int .i64 (i:Nat),.slice (some ⟨vb,0,none⟩) 1 c] w fun e w'=>∃v',e= .returned v'∧OPL w' B v' (insP l i p)∧Below B w w':=by
 obtain⟨i0,hi0,hz0,hz1,hz2⟩:=info_parts pair_info;have hXl:(cellsP l).length=n*2:=by rw[cellsP_length,hn]
 have hcur:cur.toList=cellsP l++cur.toList.drop (n*2):=by rw[←hx,List.take_append_drop]
 have hdl:((cellsP l).drop (i*2)).length=(n-i)*2:=by rw[List.length_drop,hXl];omega
 have hgw:g<w.heap.size:=(Array.getElem?_eq_some_iff.1 hg).1;have hvw:vb<w.heap.size:=hv.lt;have hold:(Builtin.firstCells i0.size i (.slice (some ⟨g,0,none⟩) i n)).run Tryz.prog w.drew= .ok ((cellsP l).take (i*2)).toArray w.drew:=by
  rw[hz1];refine run_firstCells_some w.drew 2 i ⟨g,0,none⟩ i n ((cellsP l).take (i*2)) (by rw[List.length_take,hXl];omega) ?_
  refine rd_row (w:=w.drew) hg 0 _ fun j v hj=>?_;rw[←Array.getElem?_toList,hcur,Nat.zero_add,List.getElem?_append_left (by have:=(List.getElem?_eq_some_iff.1 hj).1;rw[List.length_take]at this;omega),←hj,List.getElem?_take_of_lt (by have:=(List.getElem?_eq_some_iff.1 hj).1;rw[List.length_take]at this;omega)]
 have hik:i+(n+1-i)=n+1:=by omega
 obtain⟨G,hG⟩: ∃G,G=grownCap w (n+1) n 60:=⟨_,rfl⟩;have hGn:n+1≤G:=by rw[hG];exact grownCap_ge w _ _ _
 have hGm:G≤maxLen:=by rw[hG];exact grownCap_le_maxLen w (n+1) n 60 (by unfold maxLen;omega)
 obtain⟨Z,hZ⟩: ∃Z:Array Value,Z=Builtin.zeroCells (Value.agg #[.string ⟨#[]⟩,.string ⟨#[]⟩]).cells (n+1-i)++Builtin.zeroCells (Value.agg #[.string ⟨#[]⟩,.string ⟨#[]⟩]).cells (G-(n+1)):=⟨_,rfl⟩;have hZs:Z.size=(G-i)*2:=by
  rw[hZ];simp[Builtin.zeroCells,Value.cells];omega
 obtain⟨row,hrow⟩: ∃row:Array Value,row=((cellsP l).take (i*2)).toArray++Z:=⟨_,rfl⟩;have hrs:row.size=G*2:=by
  rw[hrow];simp only[Array.size_append,List.size_toArray,List.length_take,hXl,hZs];omega
 have hrz: ∀ty,(Builtin.append_ #[27,3] ty #[.slice (some ⟨g,0,none⟩) i n,.int .i64 ((n:Int)+1-(i:Int))]).run Tryz.prog w=
   .ok (.slice (some ⟨w.heap.size,0,none⟩) (n+1) G) (w.drew.alloc (.cells row 60)):=fun ty=>by
  have h:=Lib.run_append_grow_zeros w 27 3 ty 60 i0 _ .i64 .i64 underlying27 underlying3 hi0 hz0 (some ⟨g,0,none⟩) i n ((cellsP l).take (i*2)) hold (n+1-i) (by omega) (by omega) (by omega) (by omega) (by rw[hz2];omega) (by rw[hz2,hik];exact growslice_fits (by omega) (by omega))
  rw[hik]at h;rw[hrow,hZ,←Array.append_assoc,hG];rw[show((n:Int)+1-(i:Int))=((n+1-i:Nat):Int)by omega]
  exact h
 obtain⟨N,hN⟩: ∃N,N=w.heap.size:=⟨_,rfl⟩;rw[←hN]at hrz;obtain⟨W0,hW0⟩: ∃W0,W0=w.drew.alloc (.cells row 60):=⟨_,rfl⟩;have hg0:W0.heap[N]? =some (.cells row 60 (0,0)):=by rw[hW0,hN];exact heap_alloc_new w.drew _
 have hb0:Below w.heap.size w W0:=by rw[hW0];exact bR.drew.alloc leR _
 have hv0:Blk W0 vb 60 #[.string p.k,.string p.v]:=hv.keep hb0;have hs0:W0.heap[g]? =some (.cells cur 60 (0,0)):=(hb0.block g hgw).trans hg;rw[←hW0]at hrz;obtain⟨cur1,hc1⟩: ∃cur1:Array Value,cur1=(row.toList.take (i*2)++[Value.string p.k,Value.string p.v]++row.toList.drop (i*2+2)).toArray:=⟨_,rfl⟩;have hs1:cur1.size=G*2:=by
  rw[hc1];simp only[List.size_toArray,List.length_append,List.length_take,List.length_drop,Array.length_toList,hrs,List.length_cons,List.length_nil];omega
 have hcpA: ∀ty dc,(Builtin.copy_ #[27,27] ty #[.slice (some ⟨N,i*2,none⟩) (n+1-i) dc,.slice (some ⟨vb,0,none⟩) 1 c]).run Tryz.prog W0= .ok (goInt (Nat.min 1 (n+1-i))) (W0.setRow N cur1):=fun ty dc=>by
  rw[hc1];refine run_copy_rowN W0 _ _ ty 60 N _ _ _ _ _ _ row 60 [.string p.k,.string p.v] 2 underlying27 pair_size hg0 ?_ ?_ ?_ (by intro u hu;simp only[List.mem_cons,List.not_mem_nil,or_false]at hu;rcases hu with rfl|rfl<;>rfl)
  ·rw[show Nat.min 1 (n+1-i)=1 from Nat.min_eq_left (by omega)];rfl
  ·exact rd_row hv0 0 [.string p.k,.string p.v] (fun j v h=>by simpa using h)
  ·rw[hrs];show i*2+2≤_;omega
 obtain⟨W1,hW1⟩: ∃W1,W1=W0.setRow N cur1:=⟨_,rfl⟩;have hg1:W1.heap[N]? =some (.cells cur1 60 (0,0)):=by rw[hW1];exact setRow_at hg0
 have hb1:W0.grownBy W1 (some N):=by rw[hW1];exact grown_setRow W0 N cur1
 have hs11:W1.heap[g]? =some (.cells cur 60 (0,0)):=(hb1.block g (Nat.lt_of_lt_of_le hgw hb0.size) (fun e=>by injection e with e;omega)).trans hs0
 rw[←hW1]at hcpA;obtain⟨cur2,hc2⟩: ∃cur2:Array Value,cur2=(cur1.toList.take ((i+1)*2)++(cellsP l).drop (i*2)++cur1.toList.drop ((i+1)*2+((cellsP l).drop (i*2)).length)).toArray:=⟨_,rfl⟩;have hs2:cur2.size=G*2:=by
  rw[hc2];simp only[List.size_toArray,List.length_append,List.length_take,List.length_drop,Array.length_toList,hs1,hXl];omega
 have hcpB: ∀ty dc sc,(Builtin.copy_ #[27,27] ty #[.slice (some ⟨N,(i+1)*2,none⟩) (n-i) dc,.slice (some ⟨g,i*2,none⟩) (n-i) sc]).run Tryz.prog W1.drew= .ok (goInt (Nat.min (n-i) (n-i))) (W1.drew.setRow N cur2):=fun ty dc sc=>by
  rw[hc2];refine run_copy_rowN W1.drew _ _ ty 60 N _ _ _ _ _ _ cur1 60 ((cellsP l).drop (i*2)) 2 underlying27 pair_size hg1 ?_ ?_ ?_ (fun u hu=>cellsP_one _ u (List.mem_of_mem_drop hu))
  ·rw[hdl,show(n-i).min (n-i)=n-i from Nat.min_self _]
  ·refine rd_row (w:=W1.drew) hs11 _ _ fun j u hj=>?_;rw[←Array.getElem?_toList,hcur,List.getElem?_append_left (by have:=(List.getElem?_eq_some_iff.1 hj).1;omega),←hj,List.getElem?_drop]
  ·rw[hdl,hs1];omega
 obtain⟨W2,hW2⟩: ∃W2,W2=W1.drew.setRow N cur2:=⟨_,rfl⟩;have hg2:W2.heap[N]? =some (.cells cur2 60 (0,0)):=by rw[hW2];exact setRow_at (w:=W1.drew) hg1
 have hb2:W1.grownBy W2 (some N):=by
  rw[hW2];exact⟨rfl,rfl,rfl,(grown_setRow W1.drew N cur2).size,(grown_setRow W1.drew N cur2).block⟩
 rw[←hW2]at hcpB;have hfin:OPL W2 B (.slice (some ⟨N,0,none⟩) (n+1) G) (insP l i p):=by
  have e1:(insP l i p).length=n+1:=by rw[insP_length l i p (by omega),hn]
  refine⟨?_,insP_fits hfit (by omega) hp (by omega)⟩
  rw[e1];refine own_of_row (by omega) hg2 hGn hGm hs2 ?_ (by rw[cellsP_length,e1])
  rw[insP_cells,hc2,hc1,hrow];have:=grow_list (cellsP l) Z.toList [.string p.k,.string p.v] i n hXl hi rfl;simpa using this
 have hbel:Below B w W2:=((hb0.mono hB).grown hb1 (Nat.le_trans hB hb0.size) (fun k hk=>by injection hk with hk;omega)).grown hb2 (Nat.le_trans hB (Nat.le_trans hb0.size hb1.size)) (fun k hk=>by injection hk with hk;omega)
 have HF:=Hd hfin;have HB:=Hd hbel;have H0:=Hd hrz;have H1:=Hd hcpA;have H2:=Hd hcpB;unfold maxLen at hGm;have q0:(n:Int)<(n:Int)+1:=by omega
 have q1:((i:Int)==(n:Int))=false:=by simp;omega
 have q3:(i:Int)<(n:Int):=by omega
 have q4:(0:Int)≤(i:Int):=by omega
 have q5:¬ (n=i):=by omega
 have q6:¬ (G=i+1):=by omega
 have q6':¬ (G=i):=by omega
 have q7:IntKind.i64.wrap ((i:Int)+1)=(i:Int)+1:=IntWalk.i64_in _ (by omega)
 have q8:((i:Int)+1).toNat=i+1:=by omega
 have q9:IntKind.i64.wrap ((n:Int)+1)=(n:Int)+1:=IntWalk.i64_in _ (by omega)
 have q10:((n:Int)+1).toNat=n+1:=by omega
 have q11:n+1-(i+1)=n-i:=by omega
 have q12:IntKind.i64.wrap ((n:Int)+1-(i:Int))=(n:Int)+1-(i:Int):=IntWalk.i64_in _ (by omega)
 have q13:(n:Int)+1≤(G:Int):=by omega
 have q14:(i:Int)+1≤(n:Int)+1:=by omega
 clear hfin hbel hrz hcpA hcpB hg2 hb2 hW2 hs2 hc2 hs11 hb1 hg1 hW1 hs1 hc1 hs0 hv0 hb0 hg0 hW0 hN hrs hrow hZs hZ hG hik hold hdl hcur hXl hx hfit hv hg hn hgw hvw;go_enter func128,ntmps128
 have h1:=H1.out;go_wp2_with (at_builtin;refine wpList_append_run _ rfl (.tmp 34) (.tmp 39) 27 3 rfl _ _ rfl rfl (H0.out _) ?_)
 clear h1;refine region_sg [8] ?_;refine anyB_sg [0,1,2,3,4,5,6,7] 1 ?_;go_wp2_with fail
 refine sg_o ?_;refine anyB_on 8 fun K hK=>?_;rw[if_pos (by rfl)]
 refine wp_copy_run _ (.tmp 50) (.tmp 53) 27 27 rfl _ _ (by rfl) (by rfl) (H2.out _ _ _) ?_
 refine lateK hK ?_;clear hK K;refine anyB_dn ?_;go_wp2_with fail
 go_ret;exact⟨_,rfl,HF.out,HB.out⟩
theorem insert_any(w:World)(B:Nat)(v:Value)(l:List Pr)(i vb c:Nat)(p:Pr)(h:OPL w B v l)(hl:l.length<4398046510976)(hp:p.k.size≤maxLen∧p.v.size≤maxLen)(hi:i≤l.length)(hB:B≤w.heap.size)
  (hv:Blk w vb 60 #[.string p.k,.string p.v]) (hne:v.ownBlock≠some vb):
  Calls Tryz.prog 128 #[v,.int .i64 (i:Nat),.slice (some ⟨vb,0,none⟩) 1 c] w fun e w'=>∃v',e= .returned v'∧OPL w' B v' (insP l i p)∧Below B w w':=by
 rcases Nat.lt_or_eq_of_le hi with hlt|rfl
 ·rcases h.own.2 with⟨_,h0⟩|⟨g,cap,cur,rfl,hBg,hg,hn,hm,hcs,hx⟩
  ·omega
  ·have hvg:vb≠g:=fun e=>hne (by simp[Value.ownBlock,e])
   by_cases hc:cap=l.length
   ·subst hc;exact insert_grow w B g l.length i cur l vb c p hg rfl hx h.fits hl hp hlt hB hv
   ·exact insert_shift w B g l.length cap i cur l vb c p hg hBg rfl (by omega) hm hcs hx h.fits hl hp hlt hB hv hvg
 ·exact insert_end w B v l vb c p h hl hp hB hv
theorem cellsP_set(l:List Pr)(i:Nat)(v:ByteArray)(h:i<l.length):cellsP (l.set i ⟨l[i].k,v⟩)=(cellsP l).set (i*2+1) (.string v):=by
 induction l generalizing i with
 |nil=>simp at h
 |cons p l ih=>
  rcases i with _|i
  ·rfl
  ·have e:(i+1)*2+1=(i*2+1)+2:=by omega
   have:=ih i (by simpa using h)
   show cellsP (p::l.set i _)=_;have e1: ∀m:List Pr,cellsP (p::m)= .string p.k::.string p.v::cellsP m:=fun m=>rfl;rw[e1,e1,e,List.set_cons_succ,List.set_cons_succ,←this];rfl
theorem own_set{w:World}{B g n cap i:Nat}{l:List Pr}{v:ByteArray}(h:OPL w B (.slice (some ⟨g,0,none⟩) n cap) l)(hn:l.length=n)(hi:i<l.length)(hv:v.size≤maxLen):OPL (w.setCell ⟨g,i*2+1,none⟩ (.string v)) B (.slice (some ⟨g,0,none⟩) n cap) (l.set i ⟨l[i].k,v⟩):=by
 subst hn;rcases h.own.2 with⟨e,_⟩|⟨g',cap',cur,e,hBg,hg,hn,hm,hcs,hx⟩
 ·cases e
 ·injection e with e1 e2 e3;injection e1 with e1;injection e1 with e1;subst e1 e3;refine⟨?_,?_⟩
  ·rw[List.length_set];refine own_of_row hBg (cur:=cur.setIfInBounds (i*2+1) (.string v)) ?_ hn hm (by rw[Array.size_setIfInBounds,hcs]) ?_ (by rw[cellsP_length,List.length_set])
   ·have:=Blk.set_ (w:=w) (g:=g) (t:=60) (cs:=cur) hg (i*2+1) (.string v);exact this
   ·rw[cellsP_set l i v hi,Array.toList_setIfInBounds,List.take_set,hx]
  ·refine⟨by rw[List.length_set];exact h.fits.1,fun q hq=>?_⟩
   rcases List.mem_or_eq_of_mem_set hq with hq|rfl
   ·exact h.fits.2 q hq
   ·exact⟨(h.fits.2 _ (List.getElem_mem hi)).1,hv⟩
theorem with_any(w:World)(v:Value)(l:List Pr)(k u:ByteArray)(h:PL w w.heap.size v l)(hs:Sorted l)(hl:l.length<4398046510976)(hk:k.size≤maxLen)(hu:u.size≤maxLen):
  Calls Tryz.prog 124 #[v,.string k,.string u] w fun e w'=>∃v',e= .returned v'∧OPL w' w.heap.size v' (plusP l k u)∧Below w.heap.size w w':=by
 have H:=Hd h;have HS:=Hd hs;have HU:=Hd hu;have HK:=Hd hk;clear h hs hu hk;go_enter func124,ntmps124
 go_wp2_with fail
 refine(clone_own _ w.heap.size v l H.out leR).mono ?_;rintro e w1 ⟨v1,rfl,ho1,hb1⟩;have HO1:=Hd ho1;have HB1:=Hd hb1;clear ho1 hb1;go_wp2_with fail
 refine(find_any _ _ l k HO1.out.pl).mono ?_;rintro e w2 ⟨i,b,rfl,hf,hb2⟩;have HO2:=Hd (HO1.out.keeps (.of_below hb2));have HB2:=Hd (below_step HB1.out leR hb2);have HF:=Hd hf;clear hf hb2;cases b with
 |true=>
  obtain⟨hi,hik⟩:=HF.out.here rfl;have h0:=HO2.out.own.2;rcases h0 with⟨_,h0⟩|⟨g,cap,cur,rfl,hBg,hg,hn,hm,hcs,hx⟩
  ·omega
  have hc:=(cell_of_row w2 g (i*2+1) cur 60 (0,0) hg).trans (Array.getElem?_eq_getElem (by omega))
  have hfz: ∀j,w2.frozen? ⟨g,j,none⟩=false:=fun j=>Blk.frozen (t:=60) (cs:=cur) hg j;obtain⟨x,hx0⟩: ∃x,cur[i*2+1]=x:=⟨_,rfl⟩;rw[hx0]at hc;have e1:l.set i ⟨l[i].k,u⟩=plusP l k u:=by
   obtain⟨e1,e2⟩:=HF.out.sorted HS.out;subst e1;rw[plus_there HS.out k u hi hik,hik]
  have HFIN:=Hd (show OPL (w2.setCell ⟨g,i*2+1,none⟩ (.string u)) w.heap.size (.slice (some ⟨g,0,none⟩) l.length cap) (plusP l k u)by rw[←e1];exact own_set HO2.out rfl hi HU.out)
  have HBF:=Hd (HB2.out.setCell (p:=⟨g,i*2+1,none⟩) hBg (.string u));have g1:(i:Int)<(l.length:Int):=by omega
  have g2:(0:Int)≤(i:Int):=by omega
  clear e1 hx0 hx hcs hn hg hik hm;go_wp2_with fail
  go_ret;exact⟨_,rfl,HFIN.out,HBF.out⟩
 |false=>
  obtain⟨A,cap,rfl⟩:=HO2.out.form;have hi:=HF.out.le;have e1:insP l i ⟨k,u⟩=plusP l k u:=by
   obtain⟨e1,e2⟩:=HF.out.sorted HS.out;subst e1;rw[plus_new HS.out k u e2.symm];rfl
  have HE:=Hd e1;clear e1;go_wp2_with fail
  refine(insert_any _ w.heap.size _ l i _ _ ⟨k,u⟩ (HO2.out.keeps (.alloc _ _)) hl ⟨HK.out,HU.out⟩ hi (Nat.le_trans HB2.out.size (by simp)) (Blk.new _ _ _) ?_).mono ?_
  ·intro e;have:=(HO2.out.own.lt _ e).2;omega
  rintro e w3 ⟨v3,rfl,ho3,hb3⟩;rw[HE.out]at ho3;have HO3:=Hd ho3;have HB3:=Hd ((HB2.out.alloc HB2.out.size _).trans hb3);clear ho3 hb3;go_wp2_with fail
  go_ret;exact⟨_,rfl,HO3.out,HB3.out⟩
def sameL(l m:List Pr)(b:Bool):Prop:=b=true↔l=m
theorem equal_any(w:World)(u v:Value)(l m:List Pr)(hu:PL w w.heap.size u l)(hv:PL w w.heap.size v m):
  Calls Tryz.prog 23 #[u,v] w fun e w'=>∃b,e= .returned (.bool b)∧sameL l m b∧Below w.heap.size w w':=by
 obtain⟨A1,c1,rfl,_,r1,hf⟩:=hu;obtain⟨A2,c2,rfl,_,r2,_⟩:=hv;have hl:l.length≤4398046510976:=hf.1;have H1:=Hd r1;have H2:=Hd r2;obtain⟨n,hN⟩: ∃n,l.length=n:=⟨_,rfl⟩;obtain⟨o,hO⟩: ∃n,m.length=n:=⟨_,rfl⟩;rw[hN]at hl⊢;rw[hO];have HN:=Hd hN;have HO:=Hd hO;clear r1 r2 hf hN hO;by_cases hne:n=o
 ·subst hne;go_enter func23,ntmps23
  go_wp2_with fail
  go_loopw [13] (fun i wx=>∃k:Nat,k≤n∧i= .int .i64 k∧Hid (∀j (h1:j<l.length) (h2:j<m.length),j<k→l[j]=m[j])∧Below w.heap.size w wx) (fun i _=>n-(intOf i).toNat)
  case atStart=>exact⟨0,Nat.zero_le _,rfl,Hd (fun j _ _ h=>absurd h (Nat.not_lt_zero _)),bR⟩
  case round=>
   obtain⟨k,hk,rfl,HG,hb⟩:=hrel;by_cases hlt:k<n
   ·have hkl:k<l.length:=by rw[HN.out];exact hlt
    have hkm:k<m.length:=by rw[HO.out];exact hlt
    obtain⟨a1,hA1,-,x1,x2⟩:=pair_at (H1.out.below hb) hkl;obtain⟨a2,hA2,-,y1,y2⟩:=pair_at (H2.out.below hb) hkm;subst hA1 hA2;obtain⟨p,hp⟩: ∃p,l[k]=p:=⟨_,rfl⟩;obtain⟨q,hq⟩: ∃p,m[k]=p:=⟨_,rfl⟩;rw[hp]at x1 x2;rw[hq]at y1 y2;have HB:=Hd hb;have HP:=Hd hp;have HQ:=Hd hq;have g1:(k:Int)<(n:Int):=by omega
    have g2:(0:Int)≤(k:Int):=by omega
    clear hb hp hq;by_cases hpq:p=q
    ·subst hpq;have HG2:=Hd (show∀j (h1:j<l.length) (h2:j<m.length),j<k+1→l[j]=m[j]from fun j h1 h2 h3=>by
      rcases Nat.lt_succ_iff_lt_or_eq.1 h3 with h|h
      ·exact HG.out j h1 h2 h
      ·subst h;rw[HP.out,HQ.out])
     go_upto_region 6 with fail
     replace x1:=keep_cell bR.drew x1
     replace x2:=keep_cell bR.drew x2
     replace y1:=keep_cell bR.drew y1
     replace y2:=keep_cell bR.drew y2
     refine region_sg [] ?_;refine anyB_sg [0,1,2,3,4,5,6,7,8] 0 ?_;go_wp2_with fail
     refine⟨rfl,by simp[plainOps,plainV,plain1,Act.eval],?_⟩
     refine anyB_dn ?_;have HB2:=Hd (HB.out.drew);clear x1 x2 y1 y2 HB;generalize World.drew _=x9 at HB2⊢;go_wp2_with fail
     go_roundw
     case rel=>exact⟨k+1,by omega,by go_num,HG2,HB2.out⟩
     case measure=>simp[intOf];omega
    ·have HF:Hid (sameL l m false):=Hd ⟨fun h=>(by cases h),fun h=>by
      subst h;exact absurd (HP.out.symm.trans HQ.out) hpq⟩
     obtain⟨pk,pv⟩:=p;obtain⟨qk,qv⟩:=q;by_cases hk2:pk=qk
     ·subst hk2;have hv2:¬ pv=qv:=fun h=>hpq (by rw[h])
      have n1:(pv.toList==qv.toList)=false:=by
       cases hh:(pv.toList==qv.toList)with
       |false=>rfl
       |true=>exact absurd (str_inj (by simpa using hh)) hv2
      clear hpq hv2;go_upto_region 6 with fail
      replace x1:=keep_cell bR.drew x1
      replace x2:=keep_cell bR.drew x2
      replace y1:=keep_cell bR.drew y1
      replace y2:=keep_cell bR.drew y2
      refine region_sg [] ?_;refine anyB_sg [0,1,2,3,4,5,6,7,8] 0 ?_;go_wp2_with fail
      refine⟨rfl,by simp[plainOps,plainV,plain1,Act.eval],?_⟩
      refine anyB_dn ?_;have HB2:=Hd (HB.out.drew);clear x1 x2 y1 y2 HB;generalize World.drew _=x9 at HB2⊢;go_wp2_with fail
      go_ret;exact⟨false,rfl,HF.out,HB2.out⟩
     ·have n1:(pk.toList==qk.toList)=false:=by
       cases hh:(pk.toList==qk.toList)with
       |false=>rfl
       |true=>exact absurd (str_inj (by simpa using hh)) hk2
      clear hpq hk2;go_upto_region 6 with fail
      replace x1:=keep_cell bR.drew x1
      replace x2:=keep_cell bR.drew x2
      replace y1:=keep_cell bR.drew y1
      replace y2:=keep_cell bR.drew y2
      refine region_sg [] ?_;refine anyB_sg [0,1,2,3,4,5,6,7,8] 0 ?_;go_wp2_with fail
      refine⟨rfl,by simp[plainOps,plainV,plain1,Act.eval],?_⟩
      refine anyB_dn ?_;have HB2:=Hd (HB.out.drew);clear x1 x2 y1 y2 HB;generalize World.drew _=x9 at HB2⊢;go_wp2_with fail
      go_ret;exact⟨false,rfl,HF.out,HB2.out⟩
   ·have g1:(n:Int)≤(k:Int):=by omega
    have HB:=Hd hb;have HF:Hid (sameL l m true):=Hd ⟨fun _=>List.ext_getElem (by rw[HN.out,HO.out]) fun j h1 h2=>HG.out j h1 h2 (by rw[HN.out]at h1;omega),fun _=>rfl⟩
    clear hb hlt;go_wp2_with fail
    go_ret;exact⟨true,rfl,HF.out,HB.out⟩
 ·have n1:((n:Int)!=(o:Int))=true:=by simp;omega
  have n2:(!((n:Int)==(o:Int)))=true:=n1;have n3:(n !=o)=true:=by simp;omega
  have HF:Hid (sameL l m false):=Hd ⟨fun h=>(by cases h),fun h=>by
   subst h;exact absurd (HN.out.symm.trans HO.out) hne⟩
  go_enter func23,ntmps23
  go_wp2_with fail
  go_ret;exact⟨false,rfl,HF.out,bR⟩
theorem pcmp_any(a b key:ByteArray)(w:World):
  Calls Tryz.prog 126 #[.agg #[.string a,.string b],.string key] w fun e w'=>e= .returned (.int .i64 (cmpS a key))∧Below w.heap.size w w':=by
 go_enter func126,ntmps126
 go_wp2_with fail
 refine(Tryz.strings_Compare a key _).mono ?_;rintro e w' ⟨rfl,rfl⟩;go_wp2_with fail
 go_ret;exact⟨rfl,boxed _ _⟩
theorem psearch_any(w:World)(v:Value)(l:List Pr)(key:ByteArray)(h:PL w w.heap.size v l):
  Calls Tryz.prog 125 #[v,.string key,.func (.func 126) #[] #[]] w fun e w'=>∃i b,e= .returned (.tuple #[.int .i64 (i:Nat),.bool b])∧Found l key i b∧Below w.heap.size w w':=by
 obtain⟨A,c,rfl,hc,hr,hf⟩:=h;have hl:l.length≤4398046510976:=hf.1;have HR:=Hd hr;obtain⟨n,hN⟩: ∃n,l.length=n:=⟨_,rfl⟩;rw[hN]at hl⊢;have HN:=Hd hN;clear hr hf hc hN;go_enter func125,ntmps125
 go_wp2_with fail
 go_loopw [9,10] (fun a b wx=>∃lo hi:Nat,a= .int .i64 lo∧b= .int .i64 hi∧Ends l key lo hi∧Below w.heap.size w wx) (fun a b _=>(intOf b).toNat-(intOf a).toNat)
 case atStart=>exact⟨0,n,rfl,rfl,⟨Nat.zero_le _,by rw[HN.out];exact Nat.le_refl _,fun _=>⟨Nat.zero_le _,by rw[←HN.out];exact pos_le _ _⟩⟩,bR⟩
 case round=>
  obtain⟨lo,hi,rfl,rfl,hE,hb⟩:=hrel;have h1:=hE.le;have h2:hi≤n:=by rw[←HN.out];exact hE.len
  by_cases hlt:lo<hi
  ·have hm:(lo+hi) / 2<l.length:=by rw[HN.out];omega
   obtain⟨ad,hA,-,c1,c2⟩:=pair_at (HR.out.below hb) hm;subst hA;obtain⟨p,hp⟩: ∃p,l[(lo+hi) / 2]=p:=⟨_,rfl⟩;rw[hp]at c1 c2;have HE:=Hd hE;have HB:=Hd hb;have g1:(0:Int)≤((lo:Int)+(hi:Int)) / 2:=by omega
   have g2:((lo:Int)+(hi:Int)) / 2<(n:Int):=by omega
   have hcm:=cmpS_neg p.k key;have hcall:=fun w=>pcmp_any p.k p.v key w;obtain⟨z,hz⟩: ∃z,cmpS p.k key=z:=⟨_,rfl⟩;rw[hz]at hcm hcall;have HC:=Hd hcall;have HP:=Hd hp;cases hless:ltS p.k key with
   |true=>
    rw[hless]at hcm;have hn:z<0:=by simpa using hcm
    have HL:=Hd hless;clear hcm hz hcall hless hp hE hb;go_wp2_with fail
    refine(HC.out _).mono ?_;rintro e w1 ⟨rfl,b1⟩;have B1:=Hd (below_step HB.out leR b1);clear b1;go_wp2_with fail
    go_roundw
    case rel=>exact⟨(lo+hi) / 2+1,hi,by go_num,rfl,HE.out.right (by omega) (by omega) hm (by rw[HP.out];exact HL.out),B1.out⟩
    case measure=>simp[intOf];omega
   |false=>
    rw[hless]at hcm;have hn:0≤z:=by simpa using hcm
    have HL:=Hd hless;clear hcm hz hcall hless hp hE hb;go_wp2_with fail
    refine(HC.out _).mono ?_;rintro e w1 ⟨rfl,b1⟩;have B1:=Hd (below_step HB.out leR b1);clear b1;go_wp2_with fail
    go_roundw
    case rel=>exact⟨lo,(lo+hi) / 2,rfl,by go_num,HE.out.left (by omega) (by omega) hm (by rw[HP.out];exact HL.out),B1.out⟩
    case measure=>simp[intOf];omega
  ·obtain rfl:hi=lo:=by omega
   have HE:=Hd hE;have HB:=Hd hb;by_cases hin:hi<n
   ·have hm:hi<l.length:=by rw[HN.out];exact hin
    obtain⟨ad,hA,-,c1,c2⟩:=pair_at (HR.out.below hb) hm;subst hA;obtain⟨p,hp⟩: ∃p,l[hi]=p:=⟨_,rfl⟩;rw[hp]at c1 c2;have hcm:=cmpS_zero p.k key;have hcall:=fun w=>pcmp_any p.k p.v key w;obtain⟨z,hz⟩: ∃z,cmpS p.k key=z:=⟨_,rfl⟩;rw[hz]at hcm hcall;obtain⟨b,hbb⟩: ∃b,decide (p.k=key)=b:=⟨_,rfl⟩;rw[hbb]at hcm;have HC:=Hd hcall;have hfound:=hE.found hm;rw[hp,hbb]at hfound;have HF:=Hd hfound;have g1:(0:Int)≤(hi:Int):=by omega
    have g2:(hi:Int)<(n:Int):=by omega
    clear hz hcall hp hE hb hbb hfound;go_wp2_with fail
    refine(HC.out _).mono ?_;rintro e w1 ⟨rfl,b1⟩;have B1:=Hd (below_step HB.out leR b1);clear b1;go_wp2_with fail
    go_ret2
    exact⟨hi,b,rfl,HF.out,B1.out⟩
   ·have hm:¬ hi<l.length:=by rw[HN.out];exact hin
    have HF:=Hd (hE.missed hm);clear hE hb hm;go_wp2_with fail
    go_ret2
    exact⟨hi,false,rfl,HF.out,HB.out⟩
theorem pput_any(w:World)(v:Value)(l:List Pr)(k u:ByteArray)(h:PL w w.heap.size v l)(hs:Sorted l)(hl:l.length<4398046510976)(hk:k.size≤maxLen)(hu:u.size≤maxLen):
  Calls Tryz.prog 102 #[v,.string k,.string u] w fun e w'=>∃v',e= .returned v'∧OPL w' w.heap.size v' (plusP l k u)∧Below w.heap.size w w':=by
 have H:=Hd h;have HS:=Hd hs;have HU:=Hd hu;have HK:=Hd hk;clear h hs hu hk;go_enter func102,ntmps102
 go_wp2_with fail
 refine(clone_own _ w.heap.size v l H.out leR).mono ?_;rintro e w1 ⟨v1,rfl,ho1,hb1⟩;have HO1:=Hd ho1;have HB1:=Hd hb1;clear ho1 hb1;go_wp2_with fail
 refine(psearch_any _ _ l k HO1.out.pl).mono ?_;rintro e w2 ⟨i,b,rfl,hf,hb2⟩;have HO2:=Hd (HO1.out.keeps (.of_below hb2));have HB2:=Hd (below_step HB1.out leR hb2);have HF:=Hd hf;clear hf hb2;cases b with
 |true=>
  obtain⟨hi,hik⟩:=HF.out.here rfl;have h0:=HO2.out.own.2;rcases h0 with⟨_,h0⟩|⟨g,cap,cur,rfl,hBg,hg,hn,hm,hcs,hx⟩
  ·omega
  have hc:=(cell_of_row w2 g (i*2+1) cur 60 (0,0) hg).trans (Array.getElem?_eq_getElem (by omega))
  have hfz: ∀j,w2.frozen? ⟨g,j,none⟩=false:=fun j=>Blk.frozen (t:=60) (cs:=cur) hg j;obtain⟨x,hx0⟩: ∃x,cur[i*2+1]=x:=⟨_,rfl⟩;rw[hx0]at hc;have e1:l.set i ⟨l[i].k,u⟩=plusP l k u:=by
   obtain⟨e1,e2⟩:=HF.out.sorted HS.out;subst e1;rw[plus_there HS.out k u hi hik,hik]
  have HFIN:=Hd (show OPL (w2.setCell ⟨g,i*2+1,none⟩ (.string u)) w.heap.size (.slice (some ⟨g,0,none⟩) l.length cap) (plusP l k u)by rw[←e1];exact own_set HO2.out rfl hi HU.out)
  have HBF:=Hd (HB2.out.setCell (p:=⟨g,i*2+1,none⟩) hBg (.string u));have g1:(i:Int)<(l.length:Int):=by omega
  have g2:(0:Int)≤(i:Int):=by omega
  clear e1 hx0 hx hcs hn hg hik hm;go_wp2_with fail
  go_ret;exact⟨_,rfl,HFIN.out,HBF.out⟩
 |false=>
  obtain⟨A,cap,rfl⟩:=HO2.out.form;have hi:=HF.out.le;have e1:insP l i ⟨k,u⟩=plusP l k u:=by
   obtain⟨e1,e2⟩:=HF.out.sorted HS.out;subst e1;rw[plus_new HS.out k u e2.symm];rfl
  have HE:=Hd e1;clear e1;go_wp2_with fail
  refine(insert_any _ w.heap.size _ l i _ _ ⟨k,u⟩ (HO2.out.keeps (.alloc _ _)) hl ⟨HK.out,HU.out⟩ hi (Nat.le_trans HB2.out.size (by simp)) (Blk.new _ _ _) ?_).mono ?_
  ·intro e;have:=(HO2.out.own.lt _ e).2;omega
  rintro e w3 ⟨v3,rfl,ho3,hb3⟩;rw[HE.out]at ho3;have HO3:=Hd ho3;have HB3:=Hd ((HB2.out.alloc HB2.out.size _).trans hb3);clear ho3 hb3;go_wp2_with fail
  go_ret;exact⟨_,rfl,HO3.out,HB3.out⟩
end Go.Proofs.YtjbnfigpflambacGreatDoor
