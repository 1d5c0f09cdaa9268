/- slices.DeleteFunc of one client in the pool's line. Conditions: those of each lemma. -/
import Derived.Test.YtjbnfigpflambacGreatDoorH06
import Derived.Test.YtjbnfigpflambacGreatDoorH18
import Derived.Lib.SliceRun
namespace Go.Proofs.YtjbnfigpflambacGreatDoor
set_option maxRecDepth 100000
set_option maxHeartbeats 16000000
open _root_.Go.Proofs.Tryz
open Go.ChangeShapes Go.WideShapes Go.ChangeAt Go.RowKit
def cloV(q:Nat):Value:=.func (.func 73) #[] #[.pointer (some ⟨q,0,none⟩)]
theorem clo_any(i c:Int)(q:Nat)(w:World)(h:w.cell? ⟨q,0,none⟩=some (.int .i64 c)):
  Calls Tryz.prog 73 #[.int .i64 i,.pointer (some ⟨q,0,none⟩)] w fun e w'=>e= .returned (.bool (i==c))∧w'=w:=by
 go_enter func73,ntmps73
 go_wp2_with fail
 go_ret;exact⟨rfl,rfl⟩
def posI(l:List Nat)(c:Nat):Int:=match (List.range l.length).find? (fun j=>decide (l.getD j 0=c))with|some i=>(i:Int)|none=>-1
theorem natV_at{l:List Nat}{j:Nat}(h:j<l.length):(natV l)[j]? =some (.int .i64 ((l.getD j 0:Nat):Int)):=by
 unfold natV;rw[List.getElem?_map,List.getElem?_eq_getElem h,List.getD_eq_getElem?_getD,List.getElem?_eq_getElem h];rfl
theorem nat_eqI(a c:Nat):((a:Int)==(c:Int))=decide (a=c):=by
 by_cases h:a=c
 ·subst h;simp
 ·have:¬ (a:Int)=(c:Int):=by omega
  simp[h,this]
theorem idxf_any(w:World)(A:Option Addr)(n k:Nat)(l:List Nat)(c q:Nat)(h:Reads w w.heap.size 1 A n (natV l))(hn:l.length=n)(hl:n≤1000)(hq:w.cell? ⟨q,0,none⟩=some (.int .i64 (c:Int))):
  Calls Tryz.prog 103 #[.slice A n k,cloV q] w fun e w'=>e= .returned (.int .i64 (posI l c))∧w'=w:=by
 have HR:=Hd h;have HN:=Hd hn;have HL:=Hd hl;obtain⟨z,hz⟩: ∃z,posI l c=z:=⟨_,rfl⟩;rw[hz];have HZ:=Hd hz;clear h hn hz;unfold cloV;go_enter func103,ntmps103
 go_wp2_with fail
 go_loopw [8] (fun i wx=>∃m:Nat,m≤n∧i= .int .i64 m∧wx=w∧Hid (∀j,j<m→l.getD j 0≠c)) (fun i _=>n-(intOf i).toNat)
 case atStart=>exact⟨0,Nat.zero_le _,rfl,rfl,Hd (fun j hj=>absurd hj (Nat.not_lt_zero _))⟩
 case round=>
  obtain⟨m,hm,rfl,rfl,HJ⟩:=hrel;by_cases hlt:m<n
  ·have g1:(m:Int)<(n:Int):=by omega
   have g2:(0:Int)≤(m:Int):=by omega
   have hml:m<l.length:=by rw[HN.out];exact hlt
   obtain⟨ad,hA,_,hcell⟩:=HR.out.2 (by omega)
   have hc:=hcell m _ (natV_at hml);subst hA;obtain⟨a,ha⟩: ∃a,l.getD m 0=a:=⟨_,rfl⟩;rw[ha]at hc;have HA:=Hd ha;have HM:=Hd hml;have ie:=nat_eqI a c;have IE:=Hd ie;clear hcell ha ie hml;go_wp2_with fail
   refine(clo_any a c q _ hq).mono ?_;rintro e w1 ⟨rfl,rfl⟩;rw[IE.out];by_cases hac:a=c
   ·have HF:=Hd (show z=(m:Int)by
     rw[←HZ.out];unfold posI;rw[find_here HM.out (by rw[HA.out];simp[hac]) (fun j hj=>by simpa using HJ.out j hj)])
    have e1:decide (a=c)=true:=by simpa using hac
    rw[e1];go_wp2_with fail
    go_ret;rw[HF.out];exact⟨rfl,rfl⟩
   ·have e1:decide (a=c)=false:=by simpa using hac
    have HF:=Hd (show∀j,j<m+1→l.getD j 0≠c by
     intro j hj;rcases Nat.lt_succ_iff_lt_or_eq.1 hj with h|h
     ·exact HJ.out j h
     ·rw[h,HA.out];exact hac)
    rw[e1];go_wp2_with fail
    go_roundw
    case rel=>exact⟨m+1,by omega,by go_num,by first|rfl|trivial,Hd HF.out⟩
    case measure=>simp[intOf];omega
  ·have g1:(n:Int)≤(m:Int):=by omega
   have HF:=Hd (show z= -1 by
    rw[←HZ.out];unfold posI;rw[List.find?_eq_none.2 (fun j hj=>by simpa using HJ.out j (by have:=List.mem_range.1 hj;rw[HN.out]at this;omega))])
   go_wp2_with fail
   go_ret;rw[HF.out];exact⟨rfl,rfl⟩
theorem OwnO.setCells{B:Nat}{e:TypeId}{g off k cap:Nat}{xs:List Value}: ∀(vs:List Value) (o:Nat) {w:World},off+k≤o→OwnO w B e 1 (.slice (some ⟨g,off,none⟩) k cap) k xs→OwnO (w.setCells g o vs) B e 1 (.slice (some ⟨g,off,none⟩) k cap) k xs
 |[],_,_,_,h=>h
 |v::vs,o,w,ho,h=>by
  have h1:=h.put (o-off) v;rw[List.set_eq_of_length_le (by rw[h.1];omega),show off+(o-off)=o by omega]at h1
  exact OwnO.setCells vs (o+1) (by omega) h1
theorem OwnO.front{w:World}{B:Nat}{e:TypeId}{g off n cap:Nat}{xs:List Value}(h:OwnO w B e 1 (.slice (some ⟨g,off,none⟩) n cap) n xs){k:Nat}(hk:k≤n):OwnO w B e 1 (.slice (some ⟨g,off,none⟩) k cap) k (xs.take k):=by
 have hl:=h.1;refine⟨by rw[List.length_take];omega,?_⟩
 rcases h.2 with⟨e0,_⟩|⟨g',off',cap',cur,e0,hB,hg,hn,hm,hc,hx⟩
 ·cases e0
 ·injection e0 with e1 e2 e3;injection e1 with e1;injection e1 with e1 e4;subst e1 e3 e4;refine .inr ⟨g,off,cap,cur,rfl,hB,hg,by omega,hm,hc,?_⟩
  rw[←hx,List.take_take];congr 1
  omega
theorem grown_store{w wx:World}{g:Nat}(h:w.grownBy wx (some g))(j:Nat)(u:Value):w.grownBy (wx.setCell ⟨g,j,none⟩ u) (some g):=
 ⟨h.os,h.tape,h.output,by simpa[World.setCell]using h.size,fun k hk hne=>(Below.heap_setCell wx ⟨g,j,none⟩ u k (fun e=>hne (by rw[e]))).trans (h.block k hk hne)⟩
theorem grown_stores{w:World}{g:Nat}: ∀(vs:List Value) (o:Nat) {wx:World},w.grownBy wx (some g)→w.grownBy (wx.setCells g o vs) (some g)
 |[],_,_,h=>h
 |v::vs,o,_,h=>grown_stores vs (o+1) (grown_store h o v)
def dropC(l:List Nat)(c:Nat):List Nat:=l.filter fun j=>!decide (j=c)
structure DelS(w wx:World)(B:Nat)(g off cap:Nat)(l:List Nat)(c i j:Nat):Prop where
 own: ∃Y:List Nat,OwnO wx B 3 1 (.slice (some ⟨g,off,none⟩) l.length cap) l.length (natV (dropC (l.take j) c++Y++l.drop j))∧Y.length=j-i
 len:(dropC (l.take j) c).length=i
 gr:w.grownBy wx (some g)
theorem drop_step{l:List Nat}{c j:Nat}(hj:j<l.length):dropC (l.take (j+1)) c=if l.getD j 0=c then dropC (l.take j) c else dropC (l.take j) c++[l.getD j 0]:=by
 unfold dropC;rw[List.take_succ_eq_append_getElem hj,List.filter_append,List.getD_eq_getElem?_getD,List.getElem?_eq_getElem hj,Option.getD_some];by_cases h:l[j]=c
 ·rw[if_pos h];simp[h]
 ·rw[if_neg h];simp[h]
theorem drop_none{l:List Nat}{c j:Nat}(h: ∀k,k<j→l.getD k 0≠c):dropC (l.take j) c=l.take j:=by
 unfold dropC;rw[List.filter_eq_self];intro a ha;obtain⟨k,hk,rfl⟩:=List.getElem_of_mem ha;rw[List.length_take]at hk;have:=h k (by omega)
 rw[List.getD_eq_getElem?_getD,List.getElem?_eq_getElem (by omega)]at this
 rw[List.getElem_take];simpa using this
section
variable {w wx:World}{B g off cap c i j:Nat}{l:List Nat}
theorem DelS.lt(h:DelS w wx B g off cap l c i j)(hij:i<j)(hj:j<l.length):wx.cell? ⟨g,off+j,none⟩=some (.int .i64 ((l.getD j 0:Nat):Int))∧∃u,wx.cell? ⟨g,off+i,none⟩=some u:=by
 obtain⟨Y,o,hy⟩:=h.own;have hl:=h.len;obtain⟨g',off',cap',e,_,hc,_⟩:=o.pos (by omega)
 injection e with e1 e2 e3;injection e1 with e1;injection e1 with e1 e4;subst e1 e4;refine⟨?_,?_⟩
 ·rw[hc j (by omega)]
  unfold natV;rw[List.getElem?_map,List.getElem?_append_right (by rw[List.length_append];omega),List.length_append,hl,hy,show j-(i+(j-i))=0 by omega,List.getElem?_drop,Nat.add_zero,List.getElem?_eq_getElem hj,List.getD_eq_getElem?_getD,List.getElem?_eq_getElem hj]
  rfl
 ·have hn:i<(natV (dropC (l.take j) c++Y++l.drop j)).length:=by rw[o.1];omega
  rw[hc i (by omega)]
  exact⟨_,List.getElem?_eq_getElem hn⟩
theorem DelS.frozen(h:DelS w wx B g off cap l c i j)(hj:0<l.length)(k:Nat):wx.frozen? ⟨g,k,none⟩=false:=by
 obtain⟨Y,o,hy⟩:=h.own;obtain⟨g',off',cap',e,_,_,hf⟩:=o.pos hj;injection e with e1 e2 e3;injection e1 with e1;injection e1 with e1 e4;subst e1 e4;exact hf k
theorem DelS.skip(h:DelS w wx B g off cap l c i j)(hij:i<j)(hj:j<l.length)(hc:l.getD j 0=c):DelS w wx B g off cap l c i (j+1):=by
 obtain⟨Y,o,hy⟩:=h.own;have e:=drop_step (c:=c) hj;rw[if_pos hc]at e;refine⟨⟨Y++[l[j]],?_,by rw[List.length_append,hy];simp;omega⟩,by rw[e];exact h.len,h.gr⟩
 rw[e];have ed:l.drop j=l[j]::l.drop (j+1):=List.drop_eq_getElem_cons hj;rw[ed]at o;simpa using o
theorem DelS.keep(h:DelS w wx B g off cap l c i j)(hij:i<j)(hj:j<l.length)(hc:l.getD j 0≠c):DelS w (wx.setCell ⟨g,off+i,none⟩ (.int .i64 ((l.getD j 0:Nat):Int))) B g off cap l c (i+1) (j+1):=by
 obtain⟨Y,o,hy⟩:=h.own;have e:=drop_step (c:=c) hj;rw[if_neg hc]at e;have hl:=h.len;obtain⟨a,Z,rfl⟩: ∃a Z,Y=a::Z:=by
  cases Y with
  |nil=>simp at hy;omega
  |cons a Z=>exact⟨a,Z,rfl⟩
 have hz:Z.length+1=j-i:=hy;refine⟨⟨Z++[l[j]],?_,by rw[List.length_append];simp;omega⟩,by rw[e,List.length_append,hl];rfl,grown_store h.gr _ _⟩
 have o1:=o.put i (.int .i64 ((l.getD j 0:Nat):Int));rw[e];have ed:l.drop j=l[j]::l.drop (j+1):=List.drop_eq_getElem_cons hj;have hs:(natV (dropC (l.take j) c++a::Z++l.drop j)).set i (.int .i64 ((l.getD j 0:Nat):Int))=natV (dropC (l.take j) c++[l.getD j 0]++(Z++[l[j]])++l.drop (j+1)):=by
  unfold natV;rw[←List.map_set (f:=fun(i:Nat)=>Value.int .i64 (i:Int)) (a:=l.getD j 0),ed];congr 1
  rw[List.append_assoc,List.set_append_right _ _ (by omega),hl,Nat.sub_self]
  simp
 rw[hs]at o1;exact o1
end
theorem posI_none{l:List Nat}{c:Nat}(h:posI l c= -1):dropC l c=l:=by
 unfold posI at h;cases e:(List.range l.length).find? (fun j=>decide (l.getD j 0=c))with
 |some i=>rw[e]at h;simp only at h;omega
 |none=>
  have:=drop_none (l:=l) (c:=c) (j:=l.length) (fun k hk=>by simpa using List.find?_eq_none.1 e k (List.mem_range.2 hk))
  rwa[List.take_length]at this
theorem posI_some{l:List Nat}{c:Nat}(h:posI l c≠ -1): ∃i:Nat,posI l c=(i:Int)∧i<l.length∧l.getD i 0=c∧∀j,j<i→l.getD j 0≠c:=by
 unfold posI at h⊢;cases e:(List.range l.length).find? (fun j=>decide (l.getD j 0=c))with
 |none=>rw[e]at h;exact absurd rfl h
 |some i=>
  obtain⟨h1,h2,h3⟩:=find_first e;exact⟨i,rfl,h1,by simpa using h2,fun j hj=>by simpa using h3 j hj⟩
theorem delf_any(w:World)(B:Nat)(v:Value)(l:List Nat)(c q:Nat)(h:OwnO w B 3 1 v l.length (natV l))(hl:l.length≤1000)(hq:w.cell? ⟨q,0,none⟩=some (.int .i64 (c:Int)))(hne:v.ownBlock≠some q):
  Calls Tryz.prog 72 #[v,cloV q] w fun e w'=>∃v',e= .returned v'∧OwnO w' B 3 1 v' (dropC l c).length (natV (dropC l c))∧w.grownBy w' v.ownBlock∧v'.ownBlock=v.ownBlock:=by
 obtain⟨A,k,rfl,hk,hr⟩:=h.reads;have HO:=Hd h;have HRD:=Hd hr;have HQ:=Hd hq;have HL:=Hd hl;obtain⟨n,hn⟩: ∃n,l.length=n:=⟨_,rfl⟩;rw[hn]at hr hk hl⊢;have HN:=Hd hn;have hi:=fun w' (hw:w'=w)=>(show Calls Tryz.prog 103 #[.slice A n k,cloV q] w' fun e w''=>e= .returned (.int .i64 (posI l c))∧w''=w' by rw[hw];exact idxf_any w A n k l c q hr hn hl hq)
 have HI:=Hd hi;clear hi hr hn h;unfold cloV;by_cases hp:posI l c= -1
 ·have HD:=Hd (posI_none hp);rw[hp]at HI;clear hp;go_enter func72,ntmps72
  go_wp2_with fail
  refine(HI.out _ rfl).mono ?_;rintro e w1 ⟨rfl,rfl⟩;go_wp2_with fail
  go_ret;refine⟨_,rfl,?_,World.grownBy.refl _ _,rfl⟩;rw[HD.out,←HN.out];have:=HO.out;rw[HN.out]at this⊢;exact this
 ·obtain⟨i0,e0,h0,h1,h2⟩:=posI_some hp;rw[e0]at HI;have hnp:0<l.length:=by omega
  obtain⟨g,off,cap,es,hnc,_,hfz⟩:=HO.out.pos hnp;injection es with es1 es2 es3;subst es1 es3;have hgq:g≠q:=fun e=>hne (by rw[e];rfl)
  have S0:=Hd (show DelS w w B g off k l c i0 (i0+1)from⟨⟨[l.getD i0 0],by
   have e:dropC (l.take (i0+1)) c=l.take i0:=by rw[drop_step h0,if_pos h1,drop_none h2]
   rw[e];have e2:l.take i0++[l.getD i0 0]++l.drop (i0+1)=l:=by
    rw[List.getD_eq_getElem?_getD,List.getElem?_eq_getElem h0,Option.getD_some,List.append_assoc,List.singleton_append,←List.drop_eq_getElem_cons h0,List.take_append_drop]
   rw[e2];have:=HO.out;rw[HN.out]at this⊢;exact this,by simp⟩,by rw[drop_step h0,if_pos h1,drop_none h2,List.length_take];omega,World.grownBy.refl _ _⟩)
  have h0n:i0<n:=by rw[←HN.out];exact h0
  have hi1:¬ ((i0:Int)= -1):=by omega
  have hi2:((i0:Int)== -1)=false:=by simp
  clear hp e0 h0 h1 h2 hnp hfz hnc es2;go_enter func72,ntmps72
  go_wp2_with fail
  refine(HI.out _ rfl).mono ?_;rintro e w1 ⟨rfl,rfl⟩;go_wp2_with fail
  go_loopw [5,6] (fun a b wx=>∃i j:Nat,a= .int .i64 i∧b= .int .i64 j∧i<j∧j≤n∧Hid (DelS w1 wx B g off k l c i j)) (fun _ b _=>n-(intOf b).toNat)
  case atStart=>exact⟨i0,i0+1,rfl,by go_num,Nat.lt_succ_self _,h0n,S0⟩
  case round=>
   obtain⟨i,j,rfl,rfl,hij,hjn,S⟩:=hrel;by_cases hlt:j<n
   ·have hjl:j<l.length:=by rw[HN.out];exact hlt
    obtain⟨c1,u,c2⟩:=S.out.lt hij hjl;have ff:=S.out.frozen (by omega)
    have hqx:wr.cell? ⟨q,0,none⟩=some (.int .i64 (c:Int)):=S.out.gr.cell HQ.out (by simpa using fun e=>hgq e.symm)
    have HJ:=Hd hjl;obtain⟨a,ha⟩: ∃a,l.getD j 0=a:=⟨_,rfl⟩;rw[ha]at c1;have HA:=Hd ha;have ie:=nat_eqI a c;have IE:=Hd ie;have g1:(j:Int)<(n:Int):=by omega
    have g2:(0:Int)≤(j:Int):=by omega
    have g3:(i:Int)<(n:Int):=by omega
    have g4:(0:Int)≤(i:Int):=by omega
    clear ha ie hjl;go_wp2_with fail
    refine(clo_any a c q _ hqx).mono ?_;rintro e w3 ⟨rfl,rfl⟩;rw[IE.out];by_cases hac:a=c
    ·have e1:decide (a=c)=true:=by simpa using hac
     have SN:=Hd (S.out.skip hij HJ.out (by rw[HA.out];exact hac))
     rw[e1];go_wp2_with fail
     go_roundw
     case rel=>exact⟨i,j+1,rfl,by go_num,by omega,by omega,SN⟩
     case measure=>simp[intOf];omega
    ·have e1:decide (a=c)=false:=by simpa using hac
     have SN:=S.out.keep hij HJ.out (by rw[HA.out];exact hac)
     rw[HA.out]at SN;have SN:=Hd SN;rw[e1];go_wp2_with fail
     go_roundw
     case rel=>exact⟨i+1,j+1,by go_num,by go_num,by omega,by omega,SN⟩
     case measure=>simp[intOf];omega
   ·have hje:j=n:=by omega
    obtain⟨i1,hi1',hz1⟩: ∃i,Tryz.prog.info? 3=some i∧i.zero=some (.int .i64 0):=by
     obtain⟨i,h1,h2,_⟩:=info_parts (show(Tryz.prog.info? 3).map (fun i=>(i.zero,i.size,i.bytes))=some (some (.int .i64 0),1,8)by kernel_rfl)
     exact⟨i,h1,h2⟩
    have hzv: ∀w,(zeroValue 3).run Tryz.prog w= .ok (.int .i64 0) w:=fun w=>by simp[zeroValue,typeInfo,hi1',hz1]
    obtain⟨Y,o,hy⟩:=S.out.own;have hcells: ∀t,t<n-i→(wr.cell? ⟨g,off+i+t,none⟩).isSome=true:=fun t ht=>by
     obtain⟨g',off',cap',e,_,hc,_⟩:=o.pos (by rw[HN.out];omega)
     injection e with e1 e2 e3;injection e1 with e1;injection e1 with e1 e4;subst e1 e4;rw[Nat.add_assoc,hc (i+t) (by rw[HN.out];omega),List.getElem?_eq_getElem (by rw[o.1,HN.out];omega)]
     rfl
    have hcl: ∀ty,(Builtin.clear_ #[87] ty #[.slice (some ⟨g,off+i,none⟩) (n-i) (k-i)]).run Tryz.prog wr= .ok (.tuple #[]) (wr.setCells g (off+i) (List.replicate (n-i) (.int .i64 0))):=
     fun ty=>Lib.run_clear_slice wr _ _ ty _ underlying87 hzv rfl rfl g (off+i) _ _ (by omega) hcells (fun t _=>S.out.frozen (by rw[HN.out];omega) _)
    have o2:=(o.front (k:=i) (by rw[HN.out];omega)).setCells (List.replicate (n-i) (.int .i64 0)) (off+i) leR
    have et:(natV (dropC (l.take j) c++Y++l.drop j)).take i=natV (dropC l c):=by
     have hli:=S.out.len;rw[hje,←HN.out,List.take_length]at hli;rw[hje,←HN.out,List.take_length,List.drop_length,List.append_nil];unfold natV;rw[←List.map_take,List.take_append_of_le_length (by omega),List.take_of_length_le (by omega)]
    rw[et]at o2;have hli:=S.out.len;rw[hje,←HN.out,List.take_length]at hli;have o3:OwnO (wr.setCells g (off+i) (List.replicate (n-i) (.int .i64 0))) B 3 1 (.slice (some ⟨g,off,none⟩) i k) (dropC l c).length (natV (dropC l c)):=by rw[hli];exact o2
    have HF:=Hd (And.intro o3 (grown_stores (List.replicate (n-i) (.int .i64 0)) (off+i) S.out.gr));have g1:(n:Int)≤(j:Int):=by omega
    have g3:(i:Int)<(n:Int):=by omega
    have g4:(0:Int)≤(i:Int):=by omega
    have g5:(n:Int)≤(k:Int):=by omega
    have g6:(i:Int)≤(k:Int):=by omega
    have g7:(i:Int)≤(n:Int):=by omega
    have g8:¬ (k=i):=by omega
    clear o2 o3 et hli hcells hzv hi1' hz1 o hy S hje;go_wp2_with fail
    go_ret;exact⟨_,rfl,HF.out.1,HF.out.2,rfl⟩
end Go.Proofs.YtjbnfigpflambacGreatDoor
