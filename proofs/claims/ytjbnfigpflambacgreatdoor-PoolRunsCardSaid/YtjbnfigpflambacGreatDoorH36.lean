/- pool.Run's end: the outcome is gathered. (pool).pump. Conditions: those of each lemma. -/
import Derived.Test.YtjbnfigpflambacGreatDoorH30
import Derived.Test.YtjbnfigpflambacGreatDoorH34
import Derived.Test.YtjbnfigpflambacGreatDoorH35
namespace Go.Proofs.YtjbnfigpflambacGreatDoor
set_option maxRecDepth 100000
set_option maxHeartbeats 16000000
open _root_.Go.Proofs.Tryz
open Go.ChangeShapes Go.WideShapes Go.ChangeAt Go.RowKit
structure RO(w wx:World):Prop where
 bel:Below w.heap.size w wx
 out:Blk wx (w.heap.size+1) 29 #[.slice none 0 0,.slice none 0 0,.slice none 0 0]
theorem ty_out(r:Role):r.ty≠29:=by cases r<;>simp[Role.ty]
theorem RO.turn{w x wx:World}{p:Nat}{V V':PV}{ks:List KV}{M:MV}(h:RO w x)(r:PoolR x w.heap.size p V ks M)(t:Turn p x V wx V'):RO w wx:=
 ⟨h.bel.trans (t.bel h.bel.size fun _ hk=>(r.o.lt hk).1),t.box h.out (r.o.notBox h.out ty_out)⟩
theorem RO.keep{w x wx:World}(h:RO w x)(hb:Below x.heap.size x wx):RO w wx:=⟨below_step h.bel leR hb,h.out.keep hb⟩
theorem OwnO.ofKeeps{w w':World}{B:Nat}{e:TypeId}{size n:Nat}{v:Value}{xs:List Value}(h:OwnO w B e size v n xs)(k:Keeps e w w'):OwnO w' B e size v n xs:=
 h.keep fun g hg=>by
  obtain⟨cs,b⟩:=h.row g hg;exact(k g cs (0,0) b).trans b.symm
theorem Blk.ofKeeps{w w':World}{q:Nat}{t:TypeId}{cs:Array Value}(h:Blk w q t cs)(k:Keeps t w w'):Blk w' q t cs:=k q cs (0,0) h
theorem OwnO.grow{w w':World}{B:Nat}{e:TypeId}{size n:Nat}{v:Value}{xs:List Value}(h:OwnO w B e size v n xs)(g:w.grownBy w' v.ownBlock){t:TypeId}(hne:e≠t):Keeps t w w':=
 Keeps.grown g (fun q hq=>by obtain⟨cs,b⟩:=h.row q hq;exact⟨cs,(0,0),b⟩) hne
theorem OwnO.bel{w0 w w':World}{B:Nat}{e:TypeId}{size n:Nat}{v:Value}{xs:List Value}(h:OwnO w B e size v n xs)(g:w.grownBy w' v.ownBlock)(hb:Below B w0 w)(hB:B≤w.heap.size):Below B w0 w':=
 hb.trans ⟨g.os,g.tape,g.output,g.size,fun k hk=>g.block k (by omega) fun e=>by have:=(h.lt k e.symm).1;omega⟩
structure RunE(w0 wx:World)(p:Nat)(V:PV)(M:MV)(z b s:Nat)(vs vr:Value):Prop where
 ro:RO w0 wx
 pb:PoolB wx p M V
 buf: ∀j,b≤j→j<6→OwnO wx w0.heap.size 5 1 (V.buf j) (M.sent j).size (Lib.strCells (M.sent j))
 ap: ∀i j k,i<6→j<6→i≠j→(V.buf i).ownBlock=some k→(V.buf j).ownBlock≠some k
 deeds:OwnO wx w0.heap.size 71 7 V.deeds M.deeds.length (deV M.deeds)
 rows:OPL wx w0.heap.size vr M.w.rows
 box:Blk wx z 29 #[vs,V.deeds,vr]
 sent:OwnO wx w0.heap.size 9 1 vs s ((List.range s).map fun c=>.string (M.sent c))
 ne:z≠w0.heap.size+1
 zl:w0.heap.size≤z
section
variable {w0 wx wy:World}{p z b s:Nat}{V:PV}{M:MV}{vs vr:Value}
theorem RunE.keep(h:RunE w0 wx p V M z b s vs vr)(hb:Below wx.heap.size wx wy):RunE w0 wy p V M z b s vs vr:=
 ⟨h.ro.keep hb,h.pb.keep (hb.block p h.pb.lt),fun j h1 h2=>(h.buf j h1 h2).below hb,h.ap,h.deeds.below hb,h.rows.keeps (.of_below hb),h.box.keep hb,h.sent.below hb,h.ne,h.zl⟩
theorem RunE.pblk(h:RunE w0 wx p V M z b s vs vr): ∃cs,Blk wx p 101 cs:=by
 obtain⟨cs,hb,_⟩:=h.pb.blk;exact⟨cs,hb⟩
theorem RunE.read(h:RunE w0 wx p V M z b s vs vr)(h6:b<6)(g:wx.grownBy wy (V.buf b).ownBlock):RunE w0 wy p V M z (b+1) s vs vr:=by
 have ho:=h.buf b leR h6;have k: ∀t,5≠t→Keeps t wx wy:=fun t ht=>ho.grow g ht;obtain⟨cs,pb⟩:=h.pblk;refine⟨⟨ho.bel g h.ro.bel h.ro.bel.size,h.ro.out.ofKeeps (k _ (by decide))⟩,h.pb.keep ((k _ (by decide) p cs (0,0) pb).trans pb.symm),fun j h1 h2=>?_,h.ap,h.deeds.ofKeeps (k _ (by decide)),h.rows.keeps (k _ (by decide)),h.box.ofKeeps (k _ (by decide)),h.sent.ofKeeps (k _ (by decide)),h.ne,h.zl⟩
 have hj:=h.buf j (by omega) h2
 exact hj.keep fun q hq=>g.block q (hj.lt q hq).2 fun e=>h.ap b j q h6 h2 (by omega) e.symm hq
theorem RunE.add(h:RunE w0 wx p V M z b s vs vr){v':Value}(ho:OwnO wy w0.heap.size 9 1 v' (s+1) (((List.range s).map fun c=>.string (M.sent c))++[.string (M.sent s)]))(g:wx.grownBy wy vs.ownBlock):
  RunE w0 (wy.setCell ⟨z,0,none⟩ v') p V M z b (s+1) v' vr∧wy.cell? ⟨z,0,none⟩=some vs∧∀j,wy.frozen? ⟨z,j,none⟩=false:=by
 have hs:=h.sent;have k: ∀t,9≠t→Keeps t wx wy:=fun t ht=>hs.grow g ht;obtain⟨cs,pb⟩:=h.pblk;have box:=h.box.ofKeeps (k _ (by decide))
 have k2: ∀t,29≠t→Keeps t wy (wy.setCell ⟨z,0,none⟩ v'):=fun t ht=>Keeps.set_ (p:=⟨z,0,none⟩) (show wy.heap[z]? =_ from box) ht v';have pb2:=pb.ofKeeps (k _ (by decide))
 refine⟨⟨⟨(hs.bel g h.ro.bel h.ro.bel.size).setCell (p:=⟨z,0,none⟩) h.zl v',(h.ro.out.ofKeeps (k _ (by decide))).far (p:=⟨z,0,none⟩) (fun e=>h.ne e.symm) v'⟩,(h.pb.keep ((k _ (by decide) p cs (0,0) pb).trans pb.symm)).keep (((k2 _ (by decide)) p cs (0,0) pb2).trans pb2.symm),fun j h1 h2=>((h.buf j h1 h2).ofKeeps (k _ (by decide))).ofKeeps (k2 _ (by decide)),h.ap,
  (h.deeds.ofKeeps (k _ (by decide))).ofKeeps (k2 _ (by decide)),(h.rows.keeps (k _ (by decide))).keeps (k2 _ (by decide)),box.set_ 0 v',?_,h.ne,h.zl⟩,box.cell_ 0 _ rfl,box.frozen⟩
 have:OwnO (wy.setCell ⟨z,0,none⟩ v') w0.heap.size 9 1 v' (s+1) _:=ho.ofKeeps (k2 _ (by decide))
 rw[List.range_succ,List.map_append];exact this
end
structure RunC(B:Nat)(wr wx:World)(rows:List Pr)(v:Option Value)(z:Option Nat):Prop where
 hb:Below wr.heap.size wr wx
 vr: ∀u,v=some u→OPL wx B u rows
 bz: ∀y,z=some y→Blk wx y 29 #[.slice none 0 0,.slice none 0 0,.slice none 0 0]∧wr.heap.size≤y
section
variable {B:Nat}{wr wx wy:World}{rows:List Pr}{v:Option Value}{z:Option Nat}
theorem RunC.start(B:Nat)(wr:World)(rows:List Pr):RunC B wr wr rows none none:=⟨bR,fun _ h=>(by cases h),fun _ h=>(by cases h)⟩
theorem RunC.keep(h:RunC B wr wx rows v z)(hb:Below wx.heap.size wx wy):RunC B wr wy rows v z:=
 ⟨below_step h.hb leR hb,fun u e=>(h.vr u e).keeps (.of_below hb),fun y e=>⟨(h.bz y e).1.keep hb,(h.bz y e).2⟩⟩
theorem RunC.fv(h:RunC B wr wx rows none z)(hb:Below wx.heap.size wx wy){u:Value}(o:OPL wy B u rows):RunC B wr wy rows (some u) z:=by
 have k:=h.keep hb;exact⟨k.hb,fun u' e=>(by injection e with e;subst e;exact o),k.bz⟩
theorem RunC.fz(h:RunC B wr wx rows v none):RunC B wr (wx.alloc (.cells #[.slice none 0 0,.slice none 0 0,.slice none 0 0] 29)) rows v (some wx.heap.size):=by
 have k:=h.keep (boxed wx (.cells #[.slice none 0 0,.slice none 0 0,.slice none 0 0] 29));exact⟨k.hb,k.vr,fun y e=>(by injection e with e;subst e;exact⟨Blk.new wx _ _,h.hb.size⟩)⟩
theorem RunC.fin{w0:World}{p:Nat}{V:PV}{ks:List KV}{M:MV}{u:Value}{y:Nat}(h:RunC w0.heap.size wr wx M.w.rows (some u) (some y))(ho:RO w0 wr)(r:PoolR wr w0.heap.size p V ks M)(a d e:Value)(ha:a= .slice none 0 0)(hd:d=V.deeds)(he:e=u)
  (hw:wy=((wx.setCell ⟨y,0,none⟩ a).setCell ⟨y,1,none⟩ d).setCell ⟨y,2,none⟩ e):RunE w0 wy p V M y 0 0 (.slice none 0 0) u:=by
 subst ha hd he;subst hw;obtain⟨b,l⟩:=h.bz _ rfl;have k: ∀t,29≠t→Keeps t wx (((wx.setCell ⟨y,0,none⟩ (.slice none 0 0)).setCell ⟨y,1,none⟩ V.deeds).setCell ⟨y,2,none⟩ e):=fun t ht=>
  ((Keeps.set_ (p:=⟨y,0,none⟩) (show wx.heap[y]? =_ from b) ht _).trans (Keeps.set_ (p:=⟨y,1,none⟩) (b.set_ 0 _) ht _)).trans (Keeps.set_ (p:=⟨y,2,none⟩) ((b.set_ 0 _).set_ 1 _) ht _)
 have r2:=r.below h.hb;have o2:=ho.keep h.hb;have nl:w0.heap.size+1<wr.heap.size:=ho.out.lt;have nz:y≠w0.heap.size+1:=by omega
 have zl:w0.heap.size≤y:=by omega
 have zl': ∀j,w0.heap.size≤(⟨y,j,none⟩:Addr).block:=fun _=>zl;have nz': ∀j,w0.heap.size+1≠(⟨y,j,none⟩:Addr).block:=fun _ e=>nz e.symm;obtain⟨cs,pb⟩:=r2.o.blk;exact⟨⟨((o2.bel.setCell (zl' 0) _).setCell (zl' 1) _).setCell (zl' 2) _,((o2.out.far (nz' 0) _).far (nz' 1) _).far (nz' 2) _⟩,r2.b.keep ((k _ (by decide) p cs (0,0) pb).trans pb.symm),fun j _ h6=>(r2.o.buf j h6).ofKeeps (k _ (by decide)),
  fun i j q hi hj hne e e'=>hne (by have:=r2.o.apart (.buf i) (.buf j) q hi hj e e';injection this),
  r2.o.deeds.ofKeeps (k _ (by decide)),(h.vr _ rfl).keeps (k _ (by decide)),((b.set_ 0 _).set_ 1 _).set_ 2 _,OwnO.nil _ _ _ _,nz,zl⟩
end
theorem str_info:(Tryz.prog.info? 9).map (fun i=>(i.zero,i.size,i.bytes))=some (some (.string ⟨#[]⟩),1,16):=by kernel_rfl
theorem pump_any(w:World)(B p:Nat)(V:PV)(ks:List KV)(f:Fr)(b:PB)(N:Nat)(h:PoolR w B p V ks (MV.of f b))(hT:TabB w B)(hO:Ok (f,b) N)(hN:N≤1000000):
  Calls Tryz.prog 44 #[.pointer (some ⟨p,0,none⟩)] w fun e w'=>e= .returned (.tuple #[])∧Done w B p V (MV.of (pumpM poolB (f,b)).1 (pumpM poolB (f,b)).2) w':=by
 have HT:=Hd hT;have HR:=Hd h;have HN:=Hd hN;have HO:=Hd hO;clear h hT hO hN;obtain⟨Mz,hMz⟩: ∃Mz,MV.of (pumpM poolB (f,b)).1 (pumpM poolB (f,b)).2=Mz:=⟨_,rfl⟩;rw[hMz];have HMZ:=Hd hMz;clear hMz;go_enter func44,ntmps44
 go_wp2_with fail
 go_loopg [] (mu f+1) (fun k wr=>Hid (PumpL w wr B p V N (f,b) k))
 case atStart=>exact Hd ⟨(f,b),V,ks,HO.out,Nat.lt_succ_self _,rfl,HR.out,Turn.refl _ _ _⟩
 case round=>
  have HP:=Hd hrel.out;clear hrel;obtain⟨⟨z,zb⟩,V1,ks1,o1,m1,e1,r1,t1⟩:=HP.out;have O1:=Hd o1;have M1:=Hd m1;have E1:=Hd e1;have R1:=Hd r1;have T1:=Hd t1;clear o1 m1 e1 r1 t1 HP;simp only at R1;go_upto_block 2 with fail
  go_cut [2] (fun c wx=>c= .int .i64 (pickI z)∧wx=wr)
  case first=>
   go_wp2_with fail
   go_loopw [2,7] (fun c i wx=>∃n:Nat,n≤6∧c= .int .i64 (-1)∧i= .int .i64 n∧wx=wr∧Hid (∀j,j<n→ready z j=false)) (fun _ i _=>6-(intOf i).toNat)
   case atStart=>exact⟨0,Nat.zero_le _,rfl,rfl,rfl,Hd (fun j hj=>absurd hj (Nat.not_lt_zero _))⟩
   case round=>
    obtain⟨n,hn,rfl,rfl,rfl,HJ⟩:=hrel;by_cases h6:n<6
    ·have g1:(n:Int)<6:=by omega
     have g2:(0:Int)≤(n:Int):=by omega
     have H6:=Hd h6;obtain⟨A1,cap1,e1,_⟩:=(R1.out.o.pend n h6).form;have x1:wr.cell? ⟨p,6+n*10+1,none⟩=some (V1.pend n):=R1.out.b.cellC (k:=1) h6 (by decide)
     have x3:wr.cell? ⟨p,6+n*10+3,none⟩=some (.int .i64 (z.c n).srv):=R1.out.b.cellC (k:=3) h6 (by decide)
     have el:((MV.of z zb).pend n).length=(z.c n).pend.length:=by show((z.c n).pend.map (·.1)).length=_;rw[List.length_map]
     rw[e1,el]at x1;clear e1 el;have next:ready z n=false→Hid (∀j,j<n+1→ready z j=false):=fun hr=>Hd fun j hj=>by
      rcases Nat.lt_succ_iff_lt_or_eq.1 hj with h|h
      ·exact HJ.out j h
      ·rw[h];exact hr
     have NX:=Hd next;clear next;cases ep:(z.c n).pend with
     |nil=>
      have HRD:=Hd (show ready z n=false by unfold ready busy;rw[ep];rfl)
      rw[ep]at x1;simp only[List.length_nil]at x1;clear ep;go_wp2_with fail
      go_roundw
      case rel=>exact⟨n+1,by omega,by first|rfl|trivial,by go_num,by first|rfl|trivial,NX.out HRD.out⟩
      case measure=>simp[intOf];omega
     |cons q l=>
      obtain⟨x,y⟩:=q;have l1:(0:Int)<((l.length+1:Nat):Int):=by omega
      rw[ep]at x1;simp only[List.length_cons]at x1;obtain⟨m,hm⟩: ∃m,l.length+1=m:=⟨_,rfl⟩;rw[hm]at x1 l1;have HBZ:=Hd (show busy z n=true by unfold busy;rw[ep];rfl)
      have HEP:=Hd ep;obtain⟨sv,hsv⟩: ∃s,(z.c n).srv=s:=⟨_,rfl⟩;rw[hsv]at x3;have HSV:=Hd hsv;clear hm ep hsv;by_cases h0:0≤sv
      ·have HPK:=Hd (show pickI z=(n:Int)by
        unfold pickI pickF;rw[find_here H6.out (by unfold ready;rw[HBZ.out,HSV.out];simp[h0]) HJ.out])
       go_wp2_with fail
       go_meet;exact⟨by rw[HPK.out],by first|rfl|trivial⟩
      ·have h1:sv<0:=by omega
       obtain⟨nb,hnb⟩: ∃nb,needsB z.mode x.k y=nb:=⟨_,rfl⟩;have HND:=Hd (show needs z n=nb by unfold needs;rw[HEP.out];exact hnb)
       have HNB:=Hd hnb;clear hnb;go_wp2_with fail
       refine(needs_any _ B p V1 ks1 _ R1.out n H6.out x (l.map (·.1)) (by show(z.c n).pend.map (·.1)=_;rw[HEP.out];rfl) y (l.map (·.2)) (by show(z.c n).pend.map (·.2)=_;rw[HEP.out];rfl)).mono ?_
       rintro e w3 ⟨rfl,rfl⟩;rw[show needsB (MV.of z zb).mode x.k y=nb from HNB.out];cases nb with
       |true=>
        have HRD:=Hd (show ready z n=false by unfold ready;rw[HND.out,HSV.out];simp[h0])
        go_wp2_with fail
        go_roundw
        case rel=>exact⟨n+1,by omega,by first|rfl|trivial,by go_num,by first|rfl|trivial,NX.out HRD.out⟩
        case measure=>simp[intOf];omega
       |false=>
        have HPK:=Hd (show pickI z=(n:Int)by
         unfold pickI pickF;rw[find_here H6.out (by unfold ready;rw[HBZ.out,HND.out];simp) HJ.out])
        go_wp2_with fail
        go_meet;exact⟨by rw[HPK.out],by first|rfl|trivial⟩
    ·have g1:(6:Int)≤(n:Int):=by omega
     have HPK:=Hd (show pickI z= -1 by
      unfold pickI pickF;rw[find_no (fun j hj=>HJ.out j (by omega))])
     go_wp2_with fail
     go_meet;exact⟨by rw[HPK.out],by first|rfl|trivial⟩
  case rest=>
   obtain⟨rfl,rfl⟩:=hcut;cases hp:pickF z with
   |some i=>
    have hpi:pickI z=(i:Int):=by unfold pickI;rw[hp]
    obtain⟨hrd,hi⟩:=pick_ready hp;have HP:=Hd hp;have HI:=Hd hi;have HRD:=Hd hrd;have g2:(0:Int)≤(i:Int):=by omega
    rw[hpi];clear hp hpi hrd hi;go_wp2_with fail
    refine(next_any _ B p V1 ks1 z zb N R1.out (HT.out.turn HR.out.o T1.out) O1.out HN.out i HI.out HRD.out).mono ?_;rintro e w3 ⟨rfl,⟨V2,ks2,r2,t2⟩⟩;have hmu:=step_mu poolB (z,zb) (by rw[step_next poolB (z,zb) HP.out])
    have hgo:=pump_go poolB (z,zb) (by rw[step_next poolB (z,zb) HP.out])
    rw[step_next poolB (z,zb) HP.out]at hmu hgo;simp only at hmu hgo;have HF:=Hd (show PumpL w w3 B p V N (f,b) (mu z)from⟨_,V2,ks2,O1.out.next HI.out HRD.out,hmu,by rw[←hgo];exact E1.out,r2,T1.out.trans t2⟩)
    clear hmu hgo r2 t2;go_wp2_with fail
    go_roundg (mu z)
    case measure=>exact M1.out
    case rel=>exact HF
   |none=>
    have hpi:pickI z= -1:=by unfold pickI;rw[hp]
    have HP:=Hd hp;rw[hpi];clear hp hpi;go_upto_block 4 with fail
    go_cut [] (fun wx=>∃V2 ks2,PoolR wx B p V2 ks2 (MV.of (queueF z) zb)∧Turn p w V wx V2)
    case first=>
     go_wp2_with fail
     go_loopw [41] (fun i wx=>∃n:Nat,n≤6∧i= .int .i64 n∧Hid (∃V2 ks2,PoolR wx B p V2 ks2 {MV.of z zb with wait:=lineF z n}∧Turn p w V wx V2)) (fun i _=>6-(intOf i).toNat)
     case atStart=>exact⟨0,Nat.zero_le _,rfl,Hd ⟨V1,ks1,by rw[show lineF z 0=z.wait by unfold lineF;simp];exact R1.out,T1.out⟩⟩
     case round=>
      obtain⟨n,hn,rfl,HL⟩:=hrel;by_cases h6:n<6
      ·have g1:(n:Int)<6:=by omega
       have g2:(0:Int)≤(n:Int):=by omega
       have H6:=Hd h6;obtain⟨V2,ks2,r2,t2⟩:=HL.out;obtain⟨A1,cap1,e1,_⟩:=(r2.o.pend n h6).form;have x1:wr.cell? ⟨p,6+n*10+1,none⟩=some (V2.pend n):=r2.b.cellC (k:=1) h6 (by decide)
       have el:((MV.of z zb).pend n).length=(z.c n).pend.length:=by show((z.c n).pend.map (·.1)).length=_;rw[List.length_map]
       have e1:V2.pend n= .slice A1 ((MV.of z zb).pend n).length cap1:=e1;rw[e1,el]at x1;clear e1 el;have hst:=line_step z n;have hhas:=line_has z n;have hlen:=line_len O1.out.fi.few (Nat.le_of_lt h6);obtain⟨A2,cap2,e2,_⟩:=r2.o.wait.form;have x66:wr.cell? ⟨p,66,none⟩=some V2.wait:=r2.b.cell (j:=66) (by decide)
       have HST:=Hd hst;have HHAS:=Hd hhas;have HLEN:=Hd hlen;have E2:=Hd (show V2.wait= .slice A2 (lineF z n).length cap2 from e2);rw[show V2.wait= .slice A2 (lineF z n).length cap2 from e2]at x66;have R2:=Hd r2;have T2:=Hd t2;have fp:=r2.b.frozen;clear e2 r2 t2 hst hhas hlen HL;obtain⟨k,hk⟩: ∃k,(z.c n).pend.length=k:=⟨_,rfl⟩;rw[hk]at x1;have HK:=Hd (show busy z n=decide (0<k)by
        unfold busy;rw[←hk];cases (z.c n).pend with
        |nil=>rfl
        |cons _ _=>simp)
       clear hk;rcases Nat.eq_zero_or_pos k with hk0|hk0
       ·subst hk0;have HF:=Hd (show lineF z (n+1)=lineF z n by rw[HST.out,if_neg (by rw[HK.out];simp)])
        go_wp2_with fail
        go_roundw
        case rel=>exact⟨n+1,by omega,by go_num,Hd ⟨V2,ks2,by rw[HF.out];exact R2.out,T2.out⟩⟩
        case measure=>simp[intOf];omega
       ·have k1:(0:Int)<(k:Int):=by omega
        have HB:=Hd (show busy z n=true by rw[HK.out];simp[hk0])
        have HW:=Hd R2.out.o.wait;rw[E2.out]at HW;obtain⟨L,hL⟩: ∃L,lineF z n=L:=⟨_,rfl⟩;have HLL:=Hd hL;rw[hL]at HW x66 HLEN HHAS E2;obtain⟨nl,hnl⟩: ∃m,L.length=m:=⟨_,rfl⟩;have HNL:=Hd hnl;rw[hnl]at x66;obtain⟨hb,hhb⟩: ∃b,L.contains n=b:=⟨_,rfl⟩;have HHB:=Hd hhb;clear hL hnl hhb HK;go_wp2_with fail
        have hc:=contains_any HW.out (by have:=HLEN.out;omega) n
        rw[HNL.out]at hc;refine hc.mono ?_;clear hc;rintro e w3 ⟨rfl,rfl⟩;rw[HHB.out];have hbw:z.wait.contains n=hb:=by rw[←HHAS.out];exact HHB.out
        have HBW:=Hd hbw;clear hbw;cases hb with
        |true=>
         have HF:=Hd (show lineF z (n+1)=L by rw[HST.out,if_neg (by rw[HBW.out];simp)];exact HLL.out)
         go_wp2_with fail
         go_roundw
         case rel=>exact⟨n+1,by omega,by go_num,Hd ⟨V2,ks2,by rw[HF.out,←HLL.out];exact R2.out,T2.out⟩⟩
         case measure=>simp[intOf];omega
        |false=>
         have HF:=Hd (show lineF z (n+1)=L++[n]by rw[HST.out,if_pos (by rw[HB.out,HBW.out];rfl),HLL.out])
         go_upto_region 14 with fail
         obtain⟨i0,hi0,hz0,hz1,hz2⟩:=info_parts int_info;have D:=Blk.new w3 3 #[.int .i64 (n:Int)];have R3:=Hd (R2.out.below (boxed w3 (.cells #[.int .i64 (n:Int)] 3)));have T3:=Hd (T2.out.below (boxed w3 (.cells #[.int .i64 (n:Int)] 3)));have ho3:=R3.out.o.wait;simp only at ho3;rw[HLL.out,HNL.out,E2.out,HNL.out]at ho3;have HO3:=Hd ho3;have HD:=Hd D;have HB3:=Hd (Nat.le_of_lt (Nat.lt_of_le_of_lt R3.out.o.lb R3.out.b.lt));have HNB:=Hd (show nl≤12 by rw[←HNL.out];exact HLEN.out)
         clear ho3 D;go_wp2_with (at_builtin;refine wpList_append_o _ rfl _ _ 87 rfl B 3 i0 _ 1 8 underlying87 hi0 hz0 hz1 hz2 rfl (by decide) (.slice A2 nl cap2) nl (natV L) rfl HO3.out _ (some ⟨w3.heap.size,0,none⟩) 1 1 [.int .i64 (n:Int)] rfl (reads_int HD.out) (by intro u hu;simp only[List.mem_cons,List.not_mem_nil,or_false]at hu;subst hu;rfl) (le_maxLen (by have:=HNB.out;omega)) (by have:=HNB.out;omega) HB3.out ?_)
         intro v' w4 ho hg hn';obtain⟨A7,k7,e7,_⟩:=ho.form;have ap:=R3.out.app_wait (v:=v') (l:=L++[n]) (by rw[List.length_append,natV_app,HNL.out];exact ho) (by rw[E2.out,HNL.out];exact hg) (by rw[E2.out,HNL.out,show(w3.alloc (.cells #[.int .i64 (n:Int)] 3)).heap.size=w3.heap.size+1 by simp];exact hn')
         obtain⟨r7,t7,y6,fp,-⟩:=ap;rw[E2.out,HNL.out]at y6;have S7:=Hd (show∃V2 ks2,PoolR (w4.setCell ⟨p,66,none⟩ v') B p V2 ks2 {MV.of z zb with wait:=lineF z (n+1)}∧Turn p w V (w4.setCell ⟨p,66,none⟩ v') V2 from⟨_,_,by rw[HF.out];exact r7,T3.out.trans t7⟩)
         subst e7;clear r7 t7 ho hg hn' R3 T3 HD HO3 HB3 hi0 hz0 hz1 hz2;go_wp2_with fail
         generalize World.setCell _ _ _=w5 at S7⊢;go_wp2_with fail
         go_roundw
         case rel=>exact⟨n+1,by omega,by go_num,Hd S7.out⟩
         case measure=>simp[intOf];omega
      ·have g1:(6:Int)≤(n:Int):=by omega
       have HF:=Hd (show∃V2 ks2,PoolR wr B p V2 ks2 (MV.of (queueF z) zb)∧Turn p w V wr V2 by
        obtain rfl:n=6:=by omega
        exact HL.out)
       go_wp2_with fail
       go_meet;exact HF.out
    case rest=>
     obtain⟨V2,ks2,r2,t2⟩:=hcut;have R2:=Hd r2;have T2:=Hd t2;have OQ:=Hd O1.out.fi.few;have y2:wc.cell? ⟨p,4,none⟩=some V2.owner:=r2.b.cell (j:=4) (by decide)
     have y66:wc.cell? ⟨p,66,none⟩=some V2.wait:=r2.b.cell (j:=66) (by decide)
     have fp:=r2.b.frozen;have ho:=r2.o.owner;have hw:=r2.o.wait;obtain⟨Ao,co,eo,_⟩:=ho.form;obtain⟨Aw,cw,ew,hwc⟩:=hw.form;have ew:V2.wait= .slice Aw (queueF z).wait.length cw:=ew;have eo:V2.owner= .slice Ao z.owner.length co:=eo;rw[eo]at y2 ho;rw[ew]at y66 hw;have HO2:=Hd (show OwnO wc B 3 1 (.slice Ao z.owner.length co) z.owner.length (intV z.owner)from ho);have EW:=Hd ew;have h8:z.owner.length≤1000:=by
      obtain⟨_,rb⟩:=O1.out.rb;have h1:=rb.ses;have h2:=rb.good.few;simp only at h1 h2;omega
     have H8:=Hd h8;have HL:=Hd (line_len O1.out.fi.few (Nat.le_refl 6));clear r2 t2 ho eo ew h8;obtain⟨no,hno⟩: ∃n,z.owner.length=n:=⟨_,rfl⟩;have HNO:=Hd hno;rw[hno]at y2;obtain⟨ii,hii⟩: ∃i,idleI z.owner=i:=⟨_,rfl⟩;have HII:=Hd hii;clear hno hii;cases hl:(queueF z).wait with
     |nil=>
      rw[hl]at y66;simp only[List.length_nil]at y66;have HLN:=Hd hl;clear hw hwc hl;go_wp2_with fail
      have hx:=index_any HO2.out H8.out;rw[HNO.out,HII.out]at hx;refine hx.mono ?_;clear hx;rintro e w3 ⟨rfl,rfl⟩;have HE:=Hd (show Mz=MV.of (queueF z) zb by
       have hs:=step_stop poolB (z,zb) HP.out (.inl HLN.out);have he:=pump_end poolB (z,zb) (by rw[hs])
       rw[hs]at he;rw[←HMZ.out,←E1.out,he])
      go_wp2_with fail
      refine bodyPost_ret (results_none rfl _ _ _) rfl ⟨rfl,?_⟩;rw[HE.out];exact⟨V2,ks2,R2.out,T2.out⟩
     |cons i l=>
      rw[hl]at y66;have HLN:=Hd hl;have ew2:=EW.out;rw[hl]at ew2;have EW2:=Hd ew2;have hw2:OwnO wc B 3 1 (.slice Aw (queueF z).wait.length cw) (queueF z).wait.length (natV (queueF z).wait):=hw;rw[hl]at hw2;have HW:=Hd hw2;clear ew2 hw2;obtain⟨g,off,rfl,en,hk,x0⟩:=wait0 HW.out;have hi:=((O1.out.fi.queue HP.out).wait i (by rw[hl];exact List.mem_cons_self)).1
      have HI:=Hd hi;clear hw hwc hl EW en hi;obtain⟨nw,hnw⟩: ∃n,(i::l).length=n:=⟨_,rfl⟩;have hn1:(1:Int)≤(nw:Int):=by rw[←hnw];simp;omega
      have hn2:(nw:Int)≤(cw:Int):=by rw[←hnw];omega
      have hn3:(0:Int)<(nw:Int):=by omega
      have hn4:¬ nw=0:=by omega
      have hn5:((nw:Int)==0)=false:=by simp;omega
      have hn6:(nw==0)=false:=by simp;omega
      rw[hnw]at y66;have HNW:=Hd hnw;clear hnw hk;cases hid:idleF z.owner with
      |none=>
       have e2:ii= -1:=by rw[←HII.out];unfold idleI;rw[hid]
       subst e2;have HID:=Hd hid;clear hid;go_wp2_with fail
       have hx:=index_any HO2.out H8.out;rw[HNO.out,HII.out]at hx;refine hx.mono ?_;clear hx;rintro e w3 ⟨rfl,rfl⟩;have HE:=Hd (show Mz=MV.of (queueF z) zb by
        have hs:=step_stop poolB (z,zb) HP.out (.inr HID.out);have he:=pump_end poolB (z,zb) (by rw[hs])
        rw[hs]at he;rw[←HMZ.out,←E1.out,he])
       go_wp2_with fail
       refine bodyPost_ret (results_none rfl _ _ _) rfl ⟨rfl,?_⟩;rw[HE.out];exact⟨V2,ks2,R2.out,T2.out⟩
      |some s=>
       have e2:ii=(s:Int):=by rw[←HII.out];unfold idleI;rw[hid]
       subst e2;have HID:=Hd hid;have hs0:(0:Int)≤(s:Int):=by omega
       clear hid;go_wp2_with fail
       have hx:=index_any HO2.out H8.out;rw[HNO.out,HII.out]at hx;refine hx.mono ?_;clear hx;rintro e w3 ⟨rfl,rfl⟩;go_upto_region 19 with fail
       go_cut [] (fun wx=>∃V3 ks3,PoolR wx B p V3 ks3 (MV.of (queueF z).unwait zb)∧Turn p w V wx V3)
       case first=>
        obtain⟨V3,r3,t3⟩:=R2.out.cut_wait (show(MV.of (queueF z) zb).wait=i::l from HLN.out) EW2.out;rw[HNW.out]at r3 t3;have e9:({MV.of (queueF z) zb with wait:=l}:MV)=MV.of (queueF z).unwait zb:=by
         unfold MV.of Fr.unwait;simp only;rw[HLN.out];rfl
        rw[e9]at r3;by_cases k1:cw=1
        ·simp only[k1,↓reduceIte,Nat.sub_self]at r3 t3;have R3:=Hd r3;have T3:=Hd t3;clear r3 t3 e9;go_wp2_with fail
         go_meet;exact⟨V3,ks2,R3.out,T2.out.trans T3.out⟩
        ·simp only[k1,↓reduceIte,Option.map_some,Addr.add_lit]at r3 t3;have R3:=Hd r3;have T3:=Hd t3;clear r3 t3 e9;go_wp2_with fail
         go_meet;exact⟨V3,ks2,R3.out,T2.out.trans T3.out⟩
       case rest=>
        obtain⟨V3,ks3,r3,t3⟩:=hcut;have R3:=Hd r3;have T3:=Hd t3;have hsl:=(idle_at HID.out).1;obtain⟨_,rb⟩:=O1.out.rb;have hkn:=rb.kn;have hgd:=rb.good.few;simp only at hkn hgd;have HB:=Hd (show s<zb.known.length∧s<z.owner.length∧zb.w.ses.length≤1000∧s≤1000 from⟨by omega,hsl,by omega,by have:=H8.out;omega⟩)
        clear r3 t3 hsl rb hkn hgd y2 y66 x0 fp;go_wp2_with fail
        refine(bind_any _ B p V3 ks3 _ R3.out (HT.out.turn HR.out.o T3.out) i s HI.out HB.out.1 HB.out.2.1 HB.out.2.2.1 HB.out.2.2.2).mono ?_;rintro e w5 ⟨rfl,⟨V4,ks4,r4,t4⟩⟩;have hst:=step_bind poolB (z,zb) HP.out HLN.out HID.out;have hmu:=step_mu poolB (z,zb) (by rw[hst])
        have hgo:=pump_go poolB (z,zb) (by rw[hst])
        have hok:=O1.out.step;rw[hst]at hmu hgo hok;simp only at hmu hgo hok;rw[←of_bind (f:=(queueF z).unwait) (b:=zb) (c:=i) (O1.out.len HI.out) s]at r4;have HF:=Hd (show PumpL w w5 B p V N (f,b) (mu z)from⟨_,V4,ks4,hok,hmu,by rw[←hgo];exact E1.out,r4,T3.out.trans t4⟩)
        clear hst hmu hgo hok r4 t4;go_wp2_with fail
        go_roundg (mu z)
        case measure=>exact M1.out
        case rel=>exact HF
end Go.Proofs.YtjbnfigpflambacGreatDoor
