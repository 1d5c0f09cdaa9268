/- What a client was sent. (pool).tell. Reference's allRows. Conditions: those of each lemma. -/
import Derived.Test.YtjbnfigpflambacGreatDoorH03
import Derived.Test.YtjbnfigpflambacGreatDoorH10
import Derived.Lib.Builder
import Derived.Laws.Externs
import Derived.Lib.Walk
namespace Go.Proofs.YtjbnfigpflambacGreatDoor
set_option maxRecDepth 100000
set_option maxHeartbeats 16000000
open _root_.Go.Proofs.Tryz
open Go.ChangeShapes Go.WideShapes Go.ChangeAt Go.RowKit
theorem builder_info:(Tryz.prog.info? 96).map (fun i=>i.size)=some 2:=by kernel_rfl
theorem pool_cells:Tryz.prog.cellsOf 101=68:=by kernel_rfl
theorem builder_lies(c:Nat)(hc:c<6):liesAt Tryz.prog Tryz.prog.depth 101 1 (6+c*10+8) 96 1=true:=by
 rcases c with _|_|_|_|_|_|c
 ·kernel_rfl
 ·kernel_rfl
 ·kernel_rfl
 ·kernel_rfl
 ·kernel_rfl
 ·kernel_rfl
 ·omega
theorem check_used(w:World)(a:Addr)(h0:w.cell? a=some (.pointer (some a))):
  Calls Tryz.prog 146 #[.pointer (some a)] w fun e w'=>e= .returned (.tuple #[])∧w'=w:=by
 obtain⟨j,hj,_⟩:=Option.map_eq_some_iff.1 builder_info;obtain⟨b,off,s⟩:=a;go_enter func146,ntmps146
 go_wp2_with fail
 rw[Lib.run_neq_ptr_same w _ underlying93 hj];go_wp2_with fail
 go_end0
 exact⟨rfl,rfl⟩
theorem check_fresh(w:World)(p c:Nat)(hc:c<6)(h0:w.cell? ⟨p,6+c*10+8,none⟩=some (.pointer none))(cs:Array Value)(hb:Blk w p 101 cs)(hs:cs.size=68):
  Calls Tryz.prog 146 #[.pointer (some ⟨p,6+c*10+8,none⟩)] w fun e w'=>e= .returned (.tuple #[])∧w'=w.setCell ⟨p,6+c*10+8,none⟩ (.pointer (some ⟨p,6+c*10+8,none⟩)):=by
 obtain⟨j,hj,hjs⟩:=Option.map_eq_some_iff.1 builder_info;have hsh:w.shape? p=some (101,68):=by
  unfold Blk at hb;simp[World.shape?,hb,hs]
 have hfz:=hb.frozen (6+c*10+8);have hl:=builder_lies c hc;obtain⟨o,ho⟩: ∃o,6+c*10+8=o:=⟨_,rfl⟩;rw[ho]at h0 hl hfz⊢;have hlt:o<68:=by omega
 clear hb hs ho;go_enter func146,ntmps146
 go_wp2_with fail
 rw[Lib.run_to_unsafe w ⟨p,o,none⟩ underlying93 underlying210 hj (by rw[hjs];decide) hsh hlt]
 simp only[Result.andThen];rw[Oper.upon_value];go_wp2_with fail
 rw[run_callFunc_extern func159 (by kernel_rfl) (by kernel_rfl) (by kernel_rfl) (e:=Extern.AbiNoEscape.same) (by kernel_rfl)]
 rw[Lib.run_noEscape];simp only[Result.andThen];rw[Oper.upon_value];go_wp2_with fail
 rw[Lib.run_from_unsafe w ⟨p,o,none⟩ underlying210 underlying93 hj hsh (by rw[pool_cells];exact hl)]
 simp only[Result.andThen];rw[Oper.upon_value];go_wp2_with fail
 go_end0
 exact⟨rfl,rfl⟩
theorem copyCheck_any(w:World)(B p:Nat)(V:PV)(ks:List KV)(M:MV)(h:PoolR w B p V ks M)(c:Nat)(hc:c<6):
  Calls Tryz.prog 146 #[.pointer (some ⟨p,6+c*10+8,none⟩)] w fun e w'=>e= .returned (.tuple #[])∧Done w B p V M w':=by
 have x8:w.cell? ⟨p,6+c*10+8,none⟩=some (V.adr c):=h.b.cellC (k:=8) hc (by decide)
 rcases h.o.adr c hc with e|e
 ·rw[e]at x8;obtain⟨cs,hb,hs,_⟩:=h.b.blk;refine(check_fresh w p c hc x8 cs hb hs).mono ?_;rintro e w' ⟨rfl,rfl⟩;have s:=Step.cell (w:=w) (V:=V) (V':={V with adr:=up V.adr c (.pointer (some ⟨p,6+c*10+8,none⟩))}) (p:=p) (.pointer (some ⟨p,6+c*10+8,none⟩)) (6+c*10+8) fun r=>by cases r<;>rfl
  exact⟨rfl,_,_,⟨h.o.st_adr c s,h.b.set_adr hc _⟩,s.turn trivial⟩
 ·rw[e]at x8;refine(check_used w _ x8).mono ?_;rintro e w' ⟨rfl,rfl⟩;exact⟨rfl,_,_,h,Turn.refl _ _ _⟩
theorem byte_info:(Tryz.prog.info? 5).map (fun i=>(i.zero,i.size,i.bytes))=some (some (.int .u8 0),1,1):=by kernel_rfl
theorem Step.of_grown{w w':World}{B p:Nat}{V:PV}{ks:List KV}{M:MV}(h:PoolO w B p V ks M){r0:Role}(hr0:r0.ok)(hp:r0≠.pool){v v':Value}(hv:V.at p r0=v.ownBlock)(g:w.grownBy w' v.ownBlock)(hn:v'.ownBlock=v.ownBlock∨v'.ownBlock=some w.heap.size){V':PV}
  (hv':V'.at p r0=v'.ownBlock) (same: ∀r:Role,r≠r0→V'.at p r=V.at p r):Step p r0 w V w' V':=
 .grown h hr0 hp (by rw[hv];exact g) same fun k hk=>by
  rw[hv']at hk;rcases hn with e|e
  ·exact .inl (by rw[hv,←e];exact hk)
  ·rw[e]at hk;injection hk with hk;exact .inr (Nat.le_of_eq hk)
theorem writeString_any(w:World)(B p:Nat)(V:PV)(ks:List KV)(M:MV)(h:PoolR w B p V ks M)(c:Nat)(hc:c<6)(m:ByteArray)(hm:(M.sent c).size+m.size≤140737488351232):
  Calls Tryz.prog 129 #[.pointer (some ⟨p,6+c*10+8,none⟩),.string m] w fun e w'=>e= .returned (.tuple #[.int .i64 m.size,.nilIface])∧Done w B p V {M with sent:=up M.sent c (M.sent c++m)} w':=by
 obtain⟨i0,hi0,hz0,hz1,hz2⟩:=info_parts byte_info;have HR:=Hd h;have HM:=Hd hm;clear h hm;go_enter func129,ntmps129
 go_wp2_with fail
 refine(copyCheck_any _ B p V ks M HR.out c hc).mono ?_;rintro e w1 ⟨rfl,V1,ks1,h1,t1⟩;have x9:w1.cell? ⟨p,6+c*10+9,none⟩=some (V1.buf c):=h1.b.cellC (k:=9) hc (by decide)
 have ho:=h1.o.buf c hc;obtain⟨n,hn⟩: ∃n,(M.sent c).size=n:=⟨_,rfl⟩;have HN:=Hd hn;rw[hn]at ho HM;obtain⟨A,cap,e,hle⟩:=ho.form;have HE:=Hd e;rw[e]at x9 ho;have HO:=Hd ho;have H1:=Hd h1;have T1:=Hd t1;have fp:=h1.b.frozen;have hB:=Nat.le_of_lt (Nat.lt_of_le_of_lt h1.o.lb h1.b.lt);clear h1 t1 ho e hle;clear hn;go_wp2_with (at_builtin;refine wpList_append_s _ rfl _ _ 94 9 rfl B 5 i0 underlying94 underlying9 hi0 hz0 hz1 hz2 (.slice A n cap) _ _ rfl HO.out m rfl (le_maxLen HM.out) (Nat.le_trans HM.out (by decide)) hB ?_)
 intro v' w2 h2 h3 h4;have s1:Step p (.buf c) w1 V1 w2 {V1 with buf:=up V1.buf c v'}:=Step.of_grown (r0:=.buf c) (v:=.slice A n cap) H1.out.o hc (by simp) (by show(V1.buf c).ownBlock=_;rw[HE.out]) h3 h4 (by show(up V1.buf c v' c).ownBlock=_;rw[up_at])
  fun r hr=>by cases r<;>first|rfl|(rename_i i;show(up V1.buf c v' i).ownBlock=_;rw[up_off _ _ (fun e=>hr (by rw[e]))];rfl)
 have O2:=Hd (H1.out.o.st_buf hc (v:=v') (t:=M.sent c++m) (by rw[ByteArray.size_append,strCells_app,HN.out];exact h2) s1)
 have T2:=Hd (T1.out.trans (s1.turn hc));have hbp:w2.heap[p]? =w1.heap[p]? :=h3.block p H1.out.b.lt fun e=>absurd (H1.out.o.apart .pool (.buf c) p trivial hc rfl (by show(V1.buf c).ownBlock=_;rw[HE.out];exact e.symm)) (by simp)
 have B2:=Hd (H1.out.b.keep hbp);have x9:w2.cell? ⟨p,6+c*10+9,none⟩=some (V1.buf c):=B2.out.cellC (k:=9) hc (by decide)
 have fp:=B2.out.frozen;obtain⟨A',cap',e',_⟩:=h2.form;subst e';clear h2 h3 h4 s1 hbp HO;go_wp2_with fail
 have s3:=Step.cell (w:=w2) (V:={V1 with buf:=up V1.buf c (.slice A' (n+m.size) cap')}) (V':={V1 with buf:=up V1.buf c (.slice A' (n+m.size) cap')}) (p:=p) (.slice A' (n+m.size) cap') (6+c*10+9) fun _=>rfl;have HF:Hid (Done w B p V {M with sent:=up M.sent c (M.sent c++m)} (w2.setCell ⟨p,6+c*10+9,none⟩ (.slice A' (n+m.size) cap'))):=Hd ⟨_,_,⟨O2.out.st_same s3,(B2.out.set_buf hc _).same fun _ _=>rfl⟩,T2.out.trans (s3.turn trivial)⟩;clear s3;go_ret2
 exact⟨rfl,HF.out⟩
theorem fit_iff(k:Int)(t:ByteArray)(st:Int):fitA k t st=true↔1≤k∧k≤4∧0≤st∧st≤2∧((k=2∨k=4)↔t.toList≠[])∧t.size≤60:=by
 unfold fitA;rw[toList_data];simp only[Bool.and_eq_true,decide_eq_true_eq,and_assoc];refine and_congr_right fun _=>and_congr_right fun _=>and_congr_right fun _=>and_congr_right fun _=>and_congr_left fun _=>?_;cases h:t.data.toList with
 |nil=>simp
 |cons a l=>simp
theorem tell_any(k:Int)(t:ByteArray)(st:Int)(w:World)(hm:t.size≤maxLen):
  Calls Tryz.prog 18 #[.agg #[.int .i64 k,.string t,.int .i64 st]] w fun e w'=>∃er,e= .returned (.tuple #[.string (tellS k t st),.int .i64 er])∧Below w.heap.size w w':=by
 unfold tellS;by_cases h:fitA k t st=true
 ·rw[if_pos h];obtain⟨h1,h2,h3,h4,h5,h6⟩:=(fit_iff k t st).1 h;exact(tell_ok k t st w h1 h2 h3 h4 h5 h6).mono fun e w' ⟨e1,hb⟩=>⟨_,e1,hb⟩
 ·rw[if_neg h];by_cases c1:k<1∨4<k∨st<0∨2<st
  ·exact(tell_kind k t st w c1).mono fun e w' ⟨e1,hb⟩=>⟨_,e1,hb⟩
  ·refine(tell_form k t st w (by omega) (by omega) (by omega) (by omega) ?_ hm).mono fun e w' ⟨e1,hb⟩=>⟨_,e1,hb⟩
   rintro⟨h5,h6⟩;exact h ((fit_iff k t st).2 ⟨by omega,by omega,by omega,by omega,h5,h6⟩)
theorem tellS_size(k:Int)(t:ByteArray)(st:Int):(tellS k t st).size≤100:=by
 unfold tellS;split
 ·rename_i h;obtain⟨_,_,_,_,_,h6⟩:=(fit_iff k t st).1 h;have h1:(stB st).size≤1:=by unfold stB;split<;>(try split)<;>decide
  have h2:(bodyB k t).size≤61:=by
   unfold bodyB;split
   ·decide
   split
   ·rw[ByteArray.size_append];have:(⟨#[61]⟩:ByteArray).size=1:=rfl;omega
   split
   ·decide
   ·rw[ByteArray.size_append];have:(⟨#[33]⟩:ByteArray).size=1:=rfl;omega
  rw[ByteArray.size_append];omega
 ·decide
theorem tellM_size(a:An):(tellM a).size≤102:=by
 have h:=tellS_size a.kind a.text a.st;unfold tellM packS;rw[if_neg (by omega),msg_size]
 omega
theorem ptell_any(w:World)(B p:Nat)(V:PV)(ks:List KV)(M:MV)(h:PoolR w B p V ks M)(c:Nat)(hc:c<6)(a:An)(ha:a.text.size≤maxLen)(hm:(M.sent c).size≤1000000000):
  Calls Tryz.prog 104 #[.pointer (some ⟨p,0,none⟩),.int .i64 (c:Nat),.agg #[.int .i64 a.kind,.string a.text,.int .i64 a.st]] w fun e w'=>e= .returned (.tuple #[])∧Done w B p V {M with sent:=up M.sent c (M.sent c++tellM a)} w':=by
 have HR:=Hd h;have HA:=Hd ha;have hz:=tellS_size a.kind a.text a.st;have hz2:=tellM_size a;have HM:=Hd hm;have g1:(c:Int)<6:=by omega
 have g2:(0:Int)≤(c:Int):=by omega
 have e0:packS 82 (tellS a.kind a.text a.st)=tellM a:=rfl;have E0:=Hd e0;obtain⟨K,T,S⟩:=a;obtain⟨u,hu⟩: ∃u,tellM ⟨K,T,S⟩=u:=⟨_,rfl⟩;rw[hu]at E0 hz2⊢;have HZ:=Hd hz;have HZ2:=Hd hz2;clear h ha hz hz2 e0 hm hu;go_enter func104,ntmps104
 go_wp2_with fail
 refine(tell_any _ _ _ _ HA.out).mono ?_;rintro e w1 ⟨er,rfl,b1⟩;have R1:=Hd ((HR.out.below (boxed w _)).below b1);have T1:=Hd (((Turn.refl p w V).below (boxed w _)).below b1);clear b1;go_wp2_with fail
 have pk:=pack_any 82 (tellS K T S) w1 (Nat.le_trans HZ.out (by decide))
 rw[show packS 82 (tellS K T S)=u from E0.out]at pk;refine pk.mono ?_;rintro e w2 ⟨rfl,b2⟩;have R2:=Hd (R1.out.below b2);have T2:=Hd (T1.out.below b2);clear b2 pk;go_wp2_with fail
 refine(writeString_any _ B p V ks M R2.out c hc u (by have:=HM.out;have:=HZ2.out;omega)).mono ?_
 rintro e w3 ⟨rfl,V3,ks3,h3,t3⟩;have H3:=Hd h3;have T3:=Hd (T2.out.trans t3);clear h3 t3;go_wp2_with fail
 go_end0
 exact⟨rfl,_,_,H3.out,T3.out⟩
theorem plusP_len1: ∀(l:List Pr) (k v:ByteArray),(plusP l k v).length≤l.length+1
 |[],_,_=>Nat.le_refl _
 |p::l,k,v=>by
  unfold plusP;split
  ·have:=plusP_len1 l k v;rw[List.length_cons,List.length_cons];omega
  ·have:=List.length_filter_le (fun q:Pr=>!decide (q.k=k)) (p::l);rw[List.length_cons];omega
theorem plus_fits{l:List Pr}{k v:ByteArray}(h: ∀p∈l,p.k.size≤maxLen∧p.v.size≤maxLen)(hk:k.size≤maxLen)(hv:v.size≤maxLen)(hl:l.length≤1000):Fits (plusP l k v):=by
 refine⟨by have:=plusP_len1 l k v;omega,fun p hp=>?_⟩
 rcases plF_in k v l p hp with rfl|hp
 ·exact⟨hk,hv⟩
 ·exact h p hp
theorem refrows_any(w:World)(r s:Value)(W:Wo)(h:WL w w.heap.size r s W)(h8:W.ses.length≤8)(hr:W.rows.length≤100)(hw: ∀s∈W.ses,s.wri.length≤100):
  Calls Tryz.prog 154 #[.agg #[r,s]] w fun e w'=>∃v',e= .returned v'∧OPL w' w.heap.size v' (allR W)∧Below w.heap.size w w':=by
 obtain⟨hrows,hses⟩:=h;obtain⟨Ar,cr,rfl⟩:=hrows.form;obtain⟨A,c,rfl,hc,hn,hs⟩:=hses;have HS:=Hd hs;have HR:=Hd hr;have HW:=Hd hw;have HP:=Hd hrows;obtain⟨n,hN⟩: ∃n,W.ses.length=n:=⟨_,rfl⟩;obtain⟨nr,hNR⟩: ∃n,W.rows.length=n:=⟨_,rfl⟩;rw[hN]at h8 hn⊢;rw[hNR]at HP⊢;have HN:=Hd hN;have B0:=Hd (boxed w (.cells #[.slice Ar nr cr,.slice A n c] 39));have X0:=Hd (Blk.new w 39 #[.slice Ar nr cr,.slice A n c]);clear hN hNR hs hr hw hrows hc;obtain⟨q,hq⟩: ∃q,w.heap.size=q:=⟨_,rfl⟩;rw[hq]at X0;go_enter func154,ntmps154
 go_wp2_with fail
 refine(refpairs_any _ _ W.rows (HP.out.alloc leR _ |>.more (by simp))).mono ?_
 rintro e w1 ⟨v1,rfl,o1,b1⟩;have O1:=Hd (o1.base (B:=_) (B':=w.heap.size) (by simp))
 have B1:=Hd (below_step B0.out leR b1);have X1:=Hd (X0.out.keep b1);clear o1 b1 B0 X0;go_upto_region 3 with fail
 go_loopw [3,4] (fun u i wx=>∃k:Nat,k≤n∧i= .int .i64 k∧OPL wx w.heap.size u (allS W.rows (W.ses.take k))∧(allS W.rows (W.ses.take k)).length≤100+k*100∧Blk wx q 39 #[.slice Ar nr cr,.slice A n c]∧Below w.heap.size w wx) (fun _ i _=>n-(intOf i).toNat)
 case atStart=>exact⟨0,Nat.zero_le _,rfl,O1.out,HR.out,X1.out,B1.out⟩
 case round=>
  obtain⟨k,hk,rfl,ho,hlen,hx,hb⟩:=hrel;have f1:=hx.cell_ 1 _ rfl;have HX:=Hd hx;have HB:=Hd hb;have HO:=Hd ho;by_cases hlt:k<n
  ·have hkl:k<W.ses.length:=by rw[HN.out];exact hlt
   have g1:(k:Int)<(n:Int):=by omega
   have g2:(0:Int)≤(k:Int):=by omega
   obtain⟨ad,hA,hAB,hse⟩:=HS.out (by rw[HN.out];omega)
   subst hA;have y:=hse k hkl;have hwl:=HW.out W.ses[k] (List.getElem_mem _);have hst:=allS_take W.rows W.ses hkl;obtain⟨t,ht⟩: ∃t,W.ses[k]=t:=⟨_,rfl⟩;rw[ht]at y hwl hst;have Y:=Hd (fun(wx:World) (hb:Below w.heap.size w wx)=>y.below (by rw[block_of_add];exact hAB) hb)
   have HST:=Hd hst;obtain⟨nw,hnw⟩: ∃n,t.wri.length=n:=⟨_,rfl⟩;rw[hnw]at hwl;have HNW:=Hd hnw;obtain⟨OS,hOS⟩: ∃OS,allS W.rows (W.ses.take k)=OS:=⟨_,rfl⟩;rw[hOS]at HO hlen HST;clear y ht hst hnw hOS hx hb ho hse hAB;go_upto_region 6 with fail
   clear f1;go_loopw [3,5] (fun u j wx=>∃m:Nat,m≤nw∧j= .int .i64 m∧OPL wx w.heap.size u (addR OS (t.wri.take m))∧(addR OS (t.wri.take m)).length≤100+k*100+m∧Blk wx q 39 #[.slice Ar nr cr,.slice (some ad) n c]∧Below w.heap.size w wx) (fun _ j _=>nw-(intOf j).toNat)
   case atStart=>exact⟨0,Nat.zero_le _,rfl,HO.out,hlen,HX.out,HB.out⟩
   case round=>
    obtain⟨m,hm,rfl,ho,hlen2,hx,hb⟩:=hrel;have f1:=hx.cell_ 1 _ rfl;have HX:=Hd hx;have HB:=Hd hb;have HO:=Hd ho;obtain⟨-,-,-,-,⟨v4,x4,p4⟩,-,-⟩:=Y.out wr hb;obtain⟨A4,z4,rfl,hz4,r4,f4⟩:=p4;rw[HNW.out]at x4 hz4;by_cases hlt2:m<nw
    ·have g1':(m:Int)<(nw:Int):=by omega
     have g2':(0:Int)≤(m:Int):=by omega
     have hml:m<t.wri.length:=by rw[HNW.out];exact hlt2
     obtain⟨ad4,hA4,_,y0,y1⟩:=pair_at r4 hml;subst hA4;have hks:=(f4.2 t.wri[m] (List.getElem_mem _)).1;have hat:=addR_take OS t.wri hml;obtain⟨p,hp⟩: ∃p,t.wri[m]=p:=⟨_,rfl⟩;rw[hp]at y0 y1 hks hat;obtain⟨pk,pv⟩:=p;simp only at y0 y1 hks hat;have HAT:=Hd hat;have HF:=Hd (plus_fits (v:=⟨#[]⟩) ho.fits.2 hks (Nat.zero_le _) (by omega))
     have hpl:=plusP_len1 (addR OS (t.wri.take m)) pk ⟨#[]⟩;obtain⟨Au,cu,rfl⟩:=HO.out.form;have P:=Hd HO.out.pl;obtain⟨OM,hOM⟩: ∃OM,addR OS (t.wri.take m)=OM:=⟨_,rfl⟩;rw[hOM]at P hlen2 HAT HF hpl HO⊢;clear hp hat r4 f4 hx hb ho hOM;go_wp2_with fail
     refine(refplus_any _ _ OM pk ⟨#[]⟩ P.out).mono ?_;rintro e w2 ⟨v2,rfl,o2,b2⟩;have O2:=Hd (show OPL w2 w.heap.size v2 (addR OS (t.wri.take (m+1)))by rw[HAT.out];exact(OPL.mk o2 HF.out).base HB.out.size)
     have HL:=Hd (show(addR OS (t.wri.take (m+1))).length≤100+k*100+(m+1)by rw[HAT.out];omega)
     have HB2:=Hd (below_step HB.out leR b2);have HX2:=Hd (HX.out.keep b2);clear o2 b2 f1 x4 y0 y1;go_wp2_with fail
     go_roundw
     case rel=>exact⟨m+1,by omega,by go_num,O2.out,HL.out,HX2.out,HB2.out⟩
     case measure=>simp[intOf];omega
    ·have hmn:m=nw:=by omega
     subst hmn;have g1':(m:Int)≤(m:Int):=Int.le_refl _;have he:addR OS (t.wri.take m)=allS W.rows (W.ses.take (k+1)):=by rw[HST.out,←HNW.out,List.take_length]
     rw[he]at HO hlen2;have HL:=Hd (show(allS W.rows (W.ses.take (k+1))).length≤100+(k+1)*100 by omega)
     clear hx hb ho r4 f4 he;go_wp2_with fail
     go_roundw
     case rel=>exact⟨k+1,by omega,by go_num,HO.out,HL.out,HX.out,HB.out⟩
     case measure=>simp[intOf];omega
  ·have g1:(n:Int)≤(k:Int):=by omega
   have hkn:k=n:=by omega
   subst hkn;rw[←HN.out,List.take_length]at HO;clear hx hb ho;go_wp2_with fail
   go_ret;exact⟨_,rfl,HO.out,HB.out⟩
end Go.Proofs.YtjbnfigpflambacGreatDoor
