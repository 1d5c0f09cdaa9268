/- Reference's house.on. Conditions: those of each lemma. -/
import Derived.Test.YtjbnfigpflambacGreatDoorH31
namespace Go.Proofs.YtjbnfigpflambacGreatDoor
set_option maxRecDepth 100000
set_option maxHeartbeats 16000000
open _root_.Go.Proofs.Tryz
open Go.ChangeShapes Go.WideShapes Go.ChangeAt Go.RowKit
structure OnL(w wx:World)(B p ga gs cap N:Nat)(z0:Fr × Wo)(k:Nat):Prop where
 z: ∃z,OkH z N∧mu z.1<k∧pumpM houseB z=pumpM houseB z0∧LeaL w wx B p ga gs cap z.1 z.2
section
variable {w wx wy:World}{B p ga gs cap:Nat}{f f':Fr}{h h':Wo}
theorem LeaL.keep(o:LeaL w wx B p ga gs cap f h)(hb:Below wx.heap.size wx wy):LeaL w wy B p ga gs cap f h:=by
 obtain⟨⟨V,cs,r⟩,t⟩:=o;exact⟨⟨V,cs,r.below hb⟩,t.trans (.of_below hb r.leB)⟩
theorem LeaL.did(o:LeaL w wx B p ga gs cap f h){V:HoV}{cs:List Value}(r:HouR wy B p ga gs cap V cs f' h')(t:HouF B wx wy):LeaL w wy B p ga gs cap f' h':=⟨⟨V,cs,r⟩,o.t.trans t⟩
theorem HouR.cutLine{V:HoV}{cs:List Value}(H:HouR w B p ga gs cap V cs f h){i:Nat}{l:List Nat}(hl:f.wait=i::l){A:Option Addr}{n k:Nat}(e:V.line= .slice A n k):
  (∃V',V'.owner=V.owner∧HouR (w.setCell ⟨p,6,none⟩ (.slice (if k=1 then A else A.map (·.add 1)) (n-1) (k-1))) B p ga gs cap V' cs f.unwait h)∧HouF B w (w.setCell ⟨p,6,none⟩ (.slice (if k=1 then A else A.map (·.add 1)) (n-1) (k-1))):=by
 have o1:=H.line;rw[hl,e]at o1;obtain⟨_,_,en,_⟩:=o1.form;injection en with _ en _;subst en;have c1:=o1.cut (k:=1) (by simp)
 have own: ∀{m q:Nat},(Value.slice (if k=1 then A else A.map (·.add 1)) m q).ownBlock=(Value.slice A (i::l).length k).ownBlock:=fun {m q}=>by
  split
  ·cases A<;>rfl
  ·cases A with
   |none=>rfl
   |some a=>
    show some (a.add 1).block=some a.block;rw[block_of_add]
 have r:=H.putLine (l:=l) (v:=.slice (if k=1 then A else A.map (·.add 1)) ((i::l).length-1) (k-1)) (by simpa[natV]using c1) (fun j h3 h4=>H.ol j h3 (by rw[e,←own,h4]))
 have e2:f.unwait={f with wait:=l}:=by unfold Fr.unwait;rw[hl];rfl
 rw[e2];exact⟨⟨{V with line:=.slice (if k=1 then A else A.map (·.add 1)) ((i::l).length-1) (k-1)},rfl,r.1⟩,r.2⟩
theorem HouR.bind{V:HoV}{cs:List Value}(H:HouR w B p ga gs cap V cs f h)(hl:f.cl.length=6){g off n k:Nat}(e:V.owner= .slice (some ⟨g,off,none⟩) n k)(s:Nat){c:Nat}(hc:c<6):
  HouR ((w.setCell ⟨g,off+s,none⟩ (.int .i64 (c:Nat))).setCell ⟨ga,c*4+2,none⟩ (.int .i64 (s:Nat))) B p ga gs cap V cs (f.bindS s c) h∧HouF B w ((w.setCell ⟨g,off+s,none⟩ (.int .i64 (c:Nat))).setCell ⟨ga,c*4+2,none⟩ (.int .i64 (s:Nat))):=by
 obtain⟨r1,t1⟩:=H.putOwner e s (c:Int);have hC:=fun j=>c_set f (i:=c) (by omega) ⟨(f.c c).bytes,(f.c c).pend,(s:Int),(f.c c).sent⟩ j
 have hC': ∀j,(f.bindS s c).c j=if j=c then⟨(f.c c).bytes,(f.c c).pend,(s:Int),(f.c c).sent⟩else f.c j:=hC
 obtain⟨r2,t2⟩:=r1.guest (f':=f.bindS s c) (k:=2) hc (by decide) (v:=.int .i64 (s:Nat)) (by show Value.int _ ((f.bindS s c).c c).srv=_;rw[hC' c,if_pos rfl]) (fun c' k' _ hk' hn=>by
  unfold guV;rw[hC' c'];by_cases e:c'=c
  ·subst e;rw[if_pos rfl];match k',hk' with
   |0,_=>rfl
   |1,_=>rfl
   |2,_=>exact absurd ⟨rfl,rfl⟩ hn
   |3,_=>rfl
  ·rw[if_neg e];rfl) rfl rfl rfl rfl (fun j _=>by
  rw[hC' j];by_cases e:j=c
  ·subst e;rw[if_pos rfl];rfl
  ·rw[if_neg e];rfl)
 exact⟨r2,t1.trans t2⟩
end
theorem on_any(w:World)(B p ga gs cap:Nat)(V:HoV)(cs:List Value)(f:Fr)(h:Wo)(N:Nat)(H:HouR w B p ga gs cap V cs f h)(hT:TabB w B)(hO:OkH (f,h) N)(hN:N≤1000000):
  Calls Tryz.prog 51 #[.pointer (some ⟨p,0,none⟩)] w (DoneH w B p ga gs cap (pumpM houseB (f,h))):=by
 have HT:=Hd hT;have HR:=Hd H;have HN:=Hd hN;have HO:=Hd hO;clear H hT hO hN;obtain⟨Z,hz⟩: ∃z,pumpM houseB (f,h)=z:=⟨_,rfl⟩;rw[hz];have HZ:=Hd hz;clear hz;go_enter func51,ntmps51
 go_wp2_with fail
 go_loopg [] (mu f+1) (fun k wr=>Hid (OnL w wr B p ga gs cap N (f,h) k))
 case atStart=>exact Hd ⟨(f,h),HO.out,Nat.lt_succ_self _,rfl,⟨V,cs,HR.out⟩,HouF.refl _ _⟩
 case round=>
  have HP:=Hd hrel.out;clear hrel;obtain⟨⟨⟨z,zh⟩,o1,m1,e1,l1⟩⟩:=HP.out;have O1:=Hd o1;have M1:=Hd m1;have E1:=Hd e1;have L1:=Hd l1;have HZL:=Hd o1.fi.six;clear o1 m1 e1 l1 HP;simp only at L1;go_upto_block 2 with fail
  go_cut [2] (fun d wx=>(d= .bool true∧Hid (∃i,i<6∧ready z i=true∧pickF z=some i∧LeaL w wx B p ga gs cap (nextM houseB (z,zh) i).1 (nextM houseB (z,zh) i).2))∨(d= .bool false∧Hid (pickF z=none∧LeaL w wx B p ga gs cap z zh)))
  case first=>
   go_wp2_with fail
   go_loopw [2,3] (fun d c wx=>∃n:Nat,n≤6∧c= .int .i64 n∧((d= .bool false∧Hid ((∀j,j<n→ready z j=false)∧LeaL w wx B p ga gs cap z zh))∨(d= .bool true∧Hid (∃i,i<6∧ready z i=true∧pickF z=some i∧LeaL w wx B p ga gs cap (nextM houseB (z,zh) i).1 (nextM houseB (z,zh) i).2)))) (fun _ c _=>6-(intOf c).toNat)
   case atStart=>exact⟨0,Nat.zero_le _,rfl,.inl ⟨rfl,Hd ⟨fun j hj=>absurd hj (Nat.not_lt_zero _),L1.out⟩⟩⟩
   case round=>
    obtain⟨n,hn,rfl,⟨rfl,HJ⟩|⟨rfl,HD⟩⟩:=hrel
    ·by_cases h6:n<6
     ·have g1:(n:Int)<6:=by omega
      have g2:(0:Int)≤(n:Int):=by omega
      have H6:=Hd h6;obtain⟨hj,⟨⟨V1,cs1,r1⟩,t1⟩⟩:=HJ.out;have HJJ:=Hd hj;have R1:=Hd r1;have T1:=Hd t1;obtain⟨A1,cap1,e1,_⟩:=(r1.wait n h6).form;have y4:wr.cell? ⟨p,4,none⟩=some (.slice (some ⟨ga,0,none⟩) 6 6):=r1.blk.cell_ 4 _ rfl;have x1:wr.cell? ⟨ga,n*4+1,none⟩=some (V1.wait n):=r1.all.cell h6 (by decide)
      have x2:wr.cell? ⟨ga,n*4+2,none⟩=some (.int .i64 (z.c n).srv):=r1.all.cell h6 (by decide)
      rw[e1]at x1;clear e1 hj r1 t1;have next:ready z n=false→∀j,j<n+1→ready z j=false:=fun hr j hj=>by
       rcases Nat.lt_succ_iff_lt_or_eq.1 hj with h|h
       ·exact HJJ.out j h
       ·rw[h];exact hr
      have NX:=Hd next;clear next HJ;cases ep:(z.c n).pend with
      |nil=>
       have HRD:=Hd (show ready z n=false by unfold ready busy;rw[ep];rfl)
       rw[ep]at x1;simp only[List.length_nil]at x1;clear ep;go_wp2_with fail
       go_roundw
       case rel=>exact⟨n+1,by omega,by go_num,.inl ⟨by first|rfl|trivial,Hd ⟨NX.out HRD.out,⟨V1,cs1,R1.out⟩,T1.out⟩⟩⟩
       case measure=>simp[intOf];omega
      |cons q l=>
       obtain⟨x,y⟩:=q;have l1:(0:Int)<((l.length+1:Nat):Int):=by omega
       rw[ep]at x1;simp only[List.length_cons]at x1;obtain⟨m,hm⟩: ∃m,l.length+1=m:=⟨_,rfl⟩;rw[hm]at x1 l1;have HBZ:=Hd (show busy z n=true by unfold busy;rw[ep];rfl)
       have HEP:=Hd ep;obtain⟨sv,hsv⟩: ∃s,(z.c n).srv=s:=⟨_,rfl⟩;rw[hsv]at x2;have HSV:=Hd hsv;clear hm ep hsv;by_cases h0:0≤sv
       ·have HRY:=Hd (show ready z n=true by unfold ready;rw[HBZ.out,HSV.out];simp[h0])
        have HPK:=Hd (show pickF z=some n by unfold pickF;exact find_here H6.out HRY.out HJJ.out)
        go_wp2_with fail
        refine(one_any _ B p ga gs cap V1 cs1 z zh N R1.out (HT.out.bel T1.out.bel) O1.out HN.out n H6.out HRY.out).mono ?_;rintro e x3 ⟨rfl,r3,t3⟩;have L3:=Hd (show LeaL w x3 B p ga gs cap _ _ from⟨r3,T1.out.trans t3⟩);clear r3 t3 x1 x2 y4;go_wp2_with fail
        go_roundw
        case rel=>exact⟨n+1,by omega,by go_num,.inr ⟨by first|rfl|trivial,Hd ⟨n,H6.out,HRY.out,HPK.out,L3.out⟩⟩⟩
        case measure=>simp[intOf];omega
       ·have h1:sv<0:=by omega
        obtain⟨nb,hnb⟩: ∃nb,needs z n=nb:=⟨_,rfl⟩;have HND:=Hd hnb;clear hnb;go_wp2_with fail
        refine(halone_any _ B p ga gs cap V1 cs1 z zh R1.out n H6.out x y l HEP.out).mono ?_;rintro e x3 ⟨rfl,b3⟩;have R3:=Hd (R1.out.below b3);have T3:=Hd (T1.out.trans (.of_below b3 R1.out.leB));rw[HND.out];clear b3 x1 x2 y4 R1 T1;cases nb with
        |true=>
         have HRD:=Hd (show ready z n=false by unfold ready;rw[HND.out,HSV.out];simp[h0])
         go_wp2_with fail
         go_roundw
         case rel=>exact⟨n+1,by omega,by go_num,.inl ⟨by first|rfl|trivial,Hd ⟨NX.out HRD.out,⟨V1,cs1,R3.out⟩,T3.out⟩⟩⟩
         case measure=>simp[intOf];omega
        |false=>
         have HRY:=Hd (show ready z n=true by unfold ready;rw[HBZ.out,HND.out];simp)
         have HPK:=Hd (show pickF z=some n by unfold pickF;exact find_here H6.out HRY.out HJJ.out)
         go_wp2_with fail
         refine(one_any _ B p ga gs cap V1 cs1 z zh N R3.out (HT.out.bel T3.out.bel) O1.out HN.out n H6.out HRY.out).mono ?_;rintro e x4 ⟨rfl,r4,t4⟩;have L4:=Hd (show LeaL w x4 B p ga gs cap _ _ from⟨r4,T3.out.trans t4⟩);clear r4 t4;go_wp2_with fail
         go_roundw
         case rel=>exact⟨n+1,by omega,by go_num,.inr ⟨by first|rfl|trivial,Hd ⟨n,H6.out,HRY.out,HPK.out,L4.out⟩⟩⟩
         case measure=>simp[intOf];omega
     ·have g1:(6:Int)≤(n:Int):=by omega
      have HPK:=Hd (show pickF z=none by unfold pickF;exact find_no (fun j hj=>HJ.out.1 j (by omega)))
      go_wp2_with fail
      go_meet;exact .inr ⟨by first|rfl|trivial,Hd ⟨HPK.out,HJ.out.2⟩⟩
    ·by_cases h6:n<6
     ·have g1:(n:Int)<6:=by omega
      go_wp2_with fail
      go_meet;exact .inl ⟨by first|rfl|trivial,HD⟩
     ·have g1:(6:Int)≤(n:Int):=by omega
      go_wp2_with fail
      go_meet;exact .inl ⟨by first|rfl|trivial,HD⟩
  case rest=>
   rcases hcut with⟨rfl,HD⟩|⟨rfl,HD⟩
   ·have HD2:=HD;obtain⟨i,hi,hrd,hp,l3⟩:=HD2.out;have hmu:=step_mu houseB (z,zh) (by rw[step_next houseB (z,zh) hp])
    have hgo:=pump_go houseB (z,zh) (by rw[step_next houseB (z,zh) hp])
    rw[step_next houseB (z,zh) hp]at hmu hgo;simp only at hmu hgo;have HF:=Hd (show OnL w wc B p ga gs cap N (f,h) (mu z)from⟨_,O1.out.next hi hrd,hmu,by rw[←hgo];exact E1.out,l3⟩)
    clear hmu hgo l3 hi hrd hp HD HD2;go_wp2_with fail
    go_roundg (mu z)
    case measure=>exact M1.out
    case rel=>exact HF
   ·have HP:=Hd HD.out.1;have L2:=Hd HD.out.2;clear HD L1;go_upto_block 4 with fail
    go_cut [] (fun wx=>LeaL w wx B p ga gs cap (queueF z) zh)
    case first=>
     go_wp2_with fail
     go_loopw [4] (fun i wx=>∃n:Nat,n≤6∧i= .int .i64 n∧Hid (LeaL w wx B p ga gs cap {z with wait:=lineF z n} zh)) (fun i _=>6-(intOf i).toNat)
     case atStart=>exact⟨0,Nat.zero_le _,rfl,Hd (by rw[show lineF z 0=z.wait by unfold lineF;simp];exact L2.out)⟩
     case round=>
      obtain⟨n,hn,rfl,HL⟩:=hrel;by_cases h6:n<6
      ·have g1:(n:Int)<6:=by omega
       have g2:(0:Int)≤(n:Int):=by omega
       obtain⟨⟨V2,cs2,r2⟩,t2⟩:=HL.out;obtain⟨A1,cap1,e1,_⟩:=(r2.wait n h6).form;have y4:wr.cell? ⟨p,4,none⟩=some (.slice (some ⟨ga,0,none⟩) 6 6):=r2.blk.cell_ 4 _ rfl;have x1:wr.cell? ⟨ga,n*4+1,none⟩=some (V2.wait n):=r2.all.cell h6 (by decide)
       have e1:V2.wait n= .slice A1 (z.c n).pend.length cap1:=e1;rw[e1]at x1;have hst:=line_step z n;have hhas:=line_has z n;have hlen:=line_len O1.out.fi.few (Nat.le_of_lt h6);obtain⟨A2,cap2,e2,_,rd2⟩:=r2.line.reads;have x6:wr.cell? ⟨p,6,none⟩=some V2.line:=r2.blk.cell_ 6 _ rfl;have HST:=Hd hst;have HHAS:=Hd hhas;have HLEN:=Hd hlen;have E2:=Hd (show V2.line= .slice A2 (lineF z n).length cap2 from e2);have RD2:=Hd (show Reads wr wr.heap.size 1 A2 (lineF z n).length (natV (lineF z n))from rd2);rw[show V2.line= .slice A2 (lineF z n).length cap2 from e2]at x6;have R2:=Hd r2;have T2:=Hd t2;have fp:=r2.blk.frozen;clear e1 e2 r2 t2 hst hhas hlen HL rd2;obtain⟨k,hk⟩: ∃k,(z.c n).pend.length=k:=⟨_,rfl⟩;rw[hk]at x1;have HKK:=Hd (show busy z n=decide (0<k)by
        unfold busy;rw[←hk];cases (z.c n).pend with
        |nil=>rfl
        |cons _ _=>simp)
       clear hk;rcases Nat.eq_zero_or_pos k with hk0|hk0
       ·subst hk0;have HF:=Hd (show lineF z (n+1)=lineF z n by rw[HST.out,if_neg (by rw[HKK.out];simp)])
        go_wp2_with fail
        go_roundw
        case rel=>exact⟨n+1,by omega,by go_num,Hd (by rw[HF.out];exact⟨⟨V2,cs2,R2.out⟩,T2.out⟩)⟩
        case measure=>simp[intOf];omega
       ·have k1:(0:Int)<(k:Int):=by omega
        have HB:=Hd (show busy z n=true by rw[HKK.out];simp[hk0])
        obtain⟨L,hL⟩: ∃L,lineF z n=L:=⟨_,rfl⟩;have HLL:=Hd hL;rw[hL]at x6 HLEN HHAS E2 RD2;obtain⟨nl,hnl⟩: ∃m,L.length=m:=⟨_,rfl⟩;have HNL:=Hd hnl;rw[hnl]at x6 RD2;have HW:=Hd (show OwnO wr B 3 1 (.slice A2 nl cap2) nl (natV L)by
         have:=R2.out.line;simp only at this;rw[hL,hnl,E2.out,hnl]at this;exact this)
        have hbw:decide (n∈L)=z.wait.contains n:=by
         rw[←HHAS.out];cases hc:L.contains n with
         |true=>simpa using hc
         |false=>simpa using hc
        obtain⟨hb,hhb⟩: ∃b,z.wait.contains n=b:=⟨_,rfl⟩;have HBW:=Hd hhb;have HMB:=Hd (hbw.trans hhb);clear hL hnl hhb HKK hbw;go_wp2_with fail
        refine(isIn_any _ A2 nl cap2 L n RD2.out HNL.out (by have:=HLEN.out;have:=HNL.out;omega)).mono ?_
        rintro e w3 ⟨rfl,rfl⟩;rw[HMB.out];cases hb with
        |true=>
         have HF:=Hd (show lineF z (n+1)=L by rw[HST.out,if_neg (by rw[HBW.out];simp)];exact HLL.out)
         go_wp2_with fail
         go_roundw
         case rel=>exact⟨n+1,by omega,by go_num,Hd (by rw[HF.out,←HLL.out];exact⟨⟨V2,cs2,R2.out⟩,T2.out⟩)⟩
         case measure=>simp[intOf];omega
        |false=>
         have HF:=Hd (show lineF z (n+1)=L++[n]by rw[HST.out,if_pos (by rw[HB.out,HBW.out];rfl),HLL.out])
         go_upto_region 12 with fail
         obtain⟨i0,hi0,hz0,hz1,hz2⟩:=info_parts int_info;have D:=Hd (Blk.new w3 3 #[.int .i64 (n:Int)]);have R3:=Hd (R2.out.below (boxed w3 (.cells #[.int .i64 (n:Int)] 3)));have T3:=Hd (T2.out.trans (.of_below (boxed w3 (.cells #[.int .i64 (n:Int)] 3)) R2.out.leB));have HO3:=Hd (HW.out.below (boxed w3 (.cells #[.int .i64 (n:Int)] 3)));have HB3:=Hd R3.out.leB;have HNB:=Hd (show nl≤12 by rw[←HNL.out];exact HLEN.out)
         go_wp2_with (at_builtin;refine wpList_append_o _ rfl _ _ 87 rfl B 3 i0 _ 1 8 underlying87 hi0 hz0 hz1 hz2 rfl (by decide) (.slice A2 nl cap2) nl (natV L) rfl HO3.out _ (some ⟨w3.heap.size,0,none⟩) 1 1 [.int .i64 (n:Int)] rfl (reads_int D.out) (by intro u hu;simp only[List.mem_cons,List.not_mem_nil,or_false]at hu;subst hu;rfl) (le_maxLen (by have:=HNB.out;omega)) (by have:=HNB.out;omega) HB3.out ?_)
         intro v' w4 ho hg hn';obtain⟨A7,k7,e7,_⟩:=ho.form;obtain⟨r7,t7,y6,fq⟩:=R3.out.appLine (v:=v') (l:=L++[n]) (by rw[List.length_append,natV_app,HNL.out];exact ho) (by rw[E2.out,HNL.out];exact hg) (by rw[E2.out,HNL.out,show(w3.alloc (.cells #[.int .i64 (n:Int)] 3)).heap.size=w3.heap.size+1 by simp];exact hn')
         rw[E2.out,HNL.out]at y6;have S7:=Hd (show LeaL w (w4.setCell ⟨p,6,none⟩ v') B p ga gs cap {z with wait:=lineF z (n+1)} zh from⟨⟨_,_,by rw[HF.out];exact r7⟩,T3.out.trans t7⟩)
         subst e7;clear r7 t7 ho hg hn' R3 T3 D HO3 HB3 hi0 hz0 hz1 hz2;go_wp2_with fail
         generalize World.setCell _ _ _=w5 at S7⊢;go_wp2_with fail
         go_roundw
         case rel=>exact⟨n+1,by omega,by go_num,Hd S7.out⟩
         case measure=>simp[intOf];omega
      ·have g1:(6:Int)≤(n:Int):=by omega
       have HF:=Hd (show LeaL w wr B p ga gs cap (queueF z) zh by
        obtain rfl:n=6:=by omega
        exact HL.out)
       go_wp2_with fail
       go_meet;exact HF.out
    case rest=>
     have L3:=Hd hcut;clear hcut L2;have HQF:=Hd (O1.out.fi.queue HP.out);have H8:=Hd O1.out.own8;have HLQ:=Hd (line_len O1.out.fi.few (Nat.le_refl 6));go_upto_block 6 with fail
     go_cut [2] (fun d wx=>(d= .bool true∧Hid (∃s i l,i<6∧(queueF z).wait=i::l∧idleF z.owner=some s∧LeaL w wx B p ga gs cap ((queueF z).unwait.bindS s i) zh))∨(d= .bool false∧Hid (LeaL w wx B p ga gs cap (queueF z) zh∧((queueF z).wait=[]∨idleF z.owner=none))))
     case first=>
      obtain⟨no,hno⟩: ∃n,z.owner.length=n:=⟨_,rfl⟩;have HNO:=Hd hno;have no8:no≤8:=by rw[←hno];exact H8.out
      clear hno;go_wp2_with fail
      go_loopw [2,5] (fun d i wx=>∃n:Nat,i= .int .i64 n∧n≤no∧((d= .bool false∧Hid ((∀j,j<n→z.owner.getD j 0≠ -1)∧LeaL w wx B p ga gs cap (queueF z) zh))∨(d= .bool true∧Hid (∃s i l,i<6∧(queueF z).wait=i::l∧idleF z.owner=some s∧LeaL w wx B p ga gs cap ((queueF z).unwait.bindS s i) zh)))) (fun _ i _=>no-(intOf i).toNat)
      case atStart=>exact⟨0,rfl,Nat.zero_le _,.inl ⟨rfl,Hd ⟨fun j hj=>absurd hj (Nat.not_lt_zero _),L3.out⟩⟩⟩
      case round=>
       obtain⟨n,rfl,hn,hd⟩:=hrel;have hl4: ∃F H,LeaL w wr B p ga gs cap F H∧F.owner.length=no:=by
        rcases hd with⟨_,HJ⟩|⟨_,HD⟩
        ·exact⟨_,_,HJ.out.2,HNO.out⟩
        ·obtain⟨s,i,l,_,_,_,h5⟩:=HD.out;exact⟨_,_,h5,by show(z.owner.set s (i:Int)).length=no;rw[List.length_set];exact HNO.out⟩
       obtain⟨F4,H4,l4,h4⟩:=hl4;obtain⟨⟨V4,cs4,r4⟩,_⟩:=l4;obtain⟨Ao,ko,eo,_⟩:=r4.owner.form;rw[h4]at eo;have y5:wr.cell? ⟨p,5,none⟩=some V4.owner:=r4.blk.cell_ 5 _ rfl;have y6:wr.cell? ⟨p,6,none⟩=some V4.line:=r4.blk.cell_ 6 _ rfl;obtain⟨Al,kl,el,_⟩:=r4.line.form;rw[eo]at y5;rw[el]at y6;clear r4 h4 eo el;obtain⟨nl4,hnl4⟩: ∃n,F4.wait.length=n:=⟨_,rfl⟩;rw[hnl4]at y6;clear hnl4;rcases hd with⟨rfl,HJ⟩|⟨rfl,HD⟩
       ·clear y5 y6;obtain⟨hj,⟨⟨V2,cs2,r2⟩,t2⟩⟩:=HJ.out;have R2:=Hd r2;have T2:=Hd t2;obtain⟨Ao,ko,eo,_⟩:=r2.owner.form;have eo:V2.owner= .slice Ao z.owner.length ko:=eo;rw[HNO.out]at eo;have y5:wr.cell? ⟨p,5,none⟩=some V2.owner:=r2.blk.cell_ 5 _ rfl;have y6:wr.cell? ⟨p,6,none⟩=some V2.line:=r2.blk.cell_ 6 _ rfl;obtain⟨Al,kl,el,hkl⟩:=r2.line.form;have HEL:=Hd el;rw[eo]at y5;rw[el]at y6;obtain⟨nl,hnl⟩: ∃n,(queueF z).wait.length=n:=⟨_,rfl⟩;rw[hnl]at y6 hkl;have HNL:=Hd hnl;have HEO:=Hd eo;have HJJ:=Hd hj;clear r2 t2 eo el hnl hj;by_cases hlt:n<no
        ·have g1:(n:Int)<(no:Int):=by omega
         have g2:(0:Int)≤(n:Int):=by omega
         cases hq:(queueF z).wait with
         |nil=>
          have hn0:nl=0:=by rw[←HNL.out,hq];rfl
          subst hn0;have HQ:=Hd hq;clear hq;go_wp2_with fail
          go_meet;exact .inr ⟨by first|rfl|trivial,Hd ⟨⟨⟨V2,cs2,R2.out⟩,T2.out⟩,.inl HQ.out⟩⟩
         |cons i l=>
          have hn1:nl=l.length+1:=by rw[←HNL.out,hq];rfl
          have hn2:(0:Int)<(nl:Int):=by omega
          have HQ:=Hd hq;obtain⟨go,oo,ko',eo',_,hoc,hof⟩:=R2.out.owner.pos (by show 0<z.owner.length;rw[HNO.out];omega)
          have hzl:n<z.owner.length:=by rw[HNO.out];exact hlt
          have o5:=hoc n (by show n<z.owner.length*1;omega)
          rw[show(intV (queueF z).owner)[n]? =some (.int .i64 (z.owner.getD n 0))by
           show(intV z.owner)[n]? =_;unfold intV;rw[List.getElem?_map,List.getElem?_eq_getElem hzl,List.getD_eq_getElem?_getD,List.getElem?_eq_getElem hzl];rfl]at o5
          have eo':V2.owner= .slice (some ⟨go,oo,none⟩) z.owner.length ko':=eo';rw[HNO.out]at eo';have HEO2:=Hd eo';have hee:=HEO.out;rw[eo']at hee;injection hee with hee1 _ hee3;subst hee1 hee3;obtain⟨ov,hov⟩: ∃o,z.owner.getD n 0=o:=⟨_,rfl⟩;rw[hov]at o5;have HOV:=Hd hov;have HI6:=Hd (HQF.out.wait i (by rw[hq];exact List.mem_cons_self)).1
          clear hoc hzl eo' hov;by_cases hov1:ov= -1
          ·subst hov1;have HID:=Hd (show idleF z.owner=some n by
            unfold idleF;exact find_here (by rw[HNO.out];exact hlt) (by rw[HOV.out];rfl) (fun j hj=>by simpa using HJJ.out j hj))
           have hw:=R2.out.line;rw[HEL.out,hq]at hw;obtain⟨gl,ol,hAl,_,_,x0⟩:=wait0 hw;subst hAl;have hn4:¬ nl=0:=by omega
           have hn5:((nl:Int)==0)=false:=by simp;omega
           have hn6:(nl==0)=false:=by simp;omega
           have hn7:(1:Int)≤(nl:Int):=by omega
           have hn8:(nl:Int)≤(kl:Int):=by omega
           have fp:=R2.out.blk.frozen;have hel:=HEL.out;rw[HNL.out]at hel;have r3:=R2.out.cutLine HQ.out hel;clear hw hq hel hn1;go_upto_region 18 with fail
           go_cut [] (fun wx=>Hid (∃V3,V3.owner=V2.owner∧HouR wx B p ga gs cap V3 cs2 (queueF z).unwait zh∧HouF B wr wx))
           case first=>
            by_cases k1:kl=1
            ·simp only[k1,↓reduceIte,Nat.sub_self]at r3;have R3:=Hd r3;clear r3;go_wp2_with fail
             go_meet;obtain⟨⟨V3,ho3,r3⟩,t3⟩:=R3.out;exact Hd ⟨V3,ho3,r3,t3⟩
            ·simp only[k1,↓reduceIte,Option.map_some,Addr.add_lit]at r3;have R3:=Hd r3;clear r3;go_wp2_with fail
             go_meet;obtain⟨⟨V3,ho3,r3⟩,t3⟩:=R3.out;exact Hd ⟨V3,ho3,r3,t3⟩
           case rest=>
            have HC3:=hcut;obtain⟨V3,ho3,r3,t3⟩:=HC3.out;have eo3:=ho3.trans HEO2.out;have z5:wc.cell? ⟨p,5,none⟩=some V3.owner:=r3.blk.cell_ 5 _ rfl;rw[eo3]at z5;have z4:wc.cell? ⟨p,4,none⟩=some (.slice (some ⟨ga,0,none⟩) 6 6):=r3.blk.cell_ 4 _ rfl;obtain⟨go',oo',ko',eo',_,hoc,hof3⟩:=r3.owner.pos (by show 0<z.owner.length;rw[HNO.out];omega)
            have hee:=eo3;rw[eo']at hee;injection hee with hee1 _ hee3;injection hee1 with hee1;injection hee1 with hee1 hee2;subst hee1 hee2 hee3;have o5':=hoc n (by show n<z.owner.length*1;rw[HNO.out];omega)
            replace o5':wc.cell? ⟨go',oo'+n,none⟩=some (.int .i64 (z.owner.getD n 0)):=o5'.trans (by
             have hzl:n<z.owner.length:=by rw[HNO.out];exact hlt
             show(intV z.owner)[n]? =_;unfold intV;rw[List.getElem?_map,List.getElem?_eq_getElem hzl,List.getD_eq_getElem?_getD,List.getElem?_eq_getElem hzl];rfl)
            rw[HOV.out]at o5';have R3:=Hd r3;have T3:=Hd t3;have HE3:=Hd eo3;obtain⟨R4a,T4a⟩:=r3.putOwner eo3 n (i:Int);have q4:(wc.setCell ⟨go',oo'+n,none⟩ (.int .i64 (i:Nat))).cell? ⟨p,4,none⟩=some (.slice (some ⟨ga,0,none⟩) 6 6):=R4a.blk.cell_ 4 _ rfl;have q2:(wc.setCell ⟨go',oo'+n,none⟩ (.int .i64 (i:Nat))).cell? ⟨ga,i*4+2,none⟩=some (.int .i64 (z.c i).srv):=R4a.all.cell HI6.out (by decide)
            have fq: ∀j,(wc.setCell ⟨go',oo'+n,none⟩ (.int .i64 (i:Nat))).frozen? ⟨ga,j,none⟩=false:=R4a.all.frozen;have i1:(i:Int)<6:=by have:=HI6.out;omega
            have i2:(0:Int)≤(i:Int):=by omega
            clear HC3 hcut r3 t3 ho3 eo3 hoc eo' y5 y6 o5 x0 fp R4a T4a hof;go_upto_region 20 with fail
            generalize hx8:World.setCell _ _ _=x8 at q4 q2 fq⊢;have HX8:=Hd hx8;clear hx8 z5 z4 o5' hof3;go_wp2_with fail
            have hb:=R3.out.bind HZL.out HE3.out n (c:=i) HI6.out;rw[HX8.out]at hb;have HB:=Hd hb;clear hb q4 q2 fq;generalize World.setCell _ _ _=x9 at HB⊢;go_roundw
            case rel=>exact⟨n+1,by go_num,by omega,.inr ⟨by first|rfl|trivial,Hd ⟨n,i,l,HI6.out,by first|exact HQ.out|rfl,HID.out,⟨V3,cs2,HB.out.1⟩,T2.out.trans (T3.out.trans HB.out.2)⟩⟩⟩
            case measure=>simp[intOf];omega
          ·have hov2:(ov== -1)=false:=by simpa using hov1
           have HN2:=Hd (show∀j,j<n+1→z.owner.getD j 0≠ -1 from fun j hj=>by
            rcases Nat.lt_succ_iff_lt_or_eq.1 hj with h|h
            ·exact HJJ.out j h
            ·rw[h,HOV.out];exact hov1)
           clear hq;go_wp2_with fail
           go_roundw
           case rel=>exact⟨n+1,by go_num,by omega,.inl ⟨by first|rfl|trivial,Hd ⟨HN2.out,⟨V2,cs2,R2.out⟩,T2.out⟩⟩⟩
           case measure=>simp[intOf];omega
        ·have g1:(no:Int)≤(n:Int):=by omega
         have HID:=Hd (show idleF z.owner=none by
          unfold idleF;exact find_no (fun j hj=>by simpa using HJJ.out j (by rw[HNO.out]at hj;omega)))
         go_wp2_with fail
         go_meet;exact .inr ⟨by first|rfl|trivial,Hd ⟨⟨⟨V2,cs2,R2.out⟩,T2.out⟩,.inr HID.out⟩⟩
       ·by_cases hlt:n<no
        ·have g1:(n:Int)<(no:Int):=by omega
         go_wp2_with fail
         go_meet;exact .inl ⟨by first|rfl|trivial,HD⟩
        ·have g1:(no:Int)≤(n:Int):=by omega
         go_wp2_with fail
         go_meet;exact .inl ⟨by first|rfl|trivial,HD⟩
     case rest=>
      rcases hcut with⟨rfl,HD⟩|⟨rfl,HD⟩
      ·have HD2:=HD;obtain⟨s,i,l,hi6,hq,hid,l9⟩:=HD2.out;have hst:=step_bind houseB (z,zh) HP.out hq hid;have hmu:=step_mu houseB (z,zh) (by rw[hst])
       have hgo:=pump_go houseB (z,zh) (by rw[hst])
       have hok:=O1.out.step;rw[hst]at hmu hgo hok;simp only at hmu hgo hok;have HF:=Hd (show OnL w wc B p ga gs cap N (f,h) (mu z)from⟨_,hok,hmu,by rw[←hgo];exact E1.out,l9⟩)
       clear hst hmu hgo hok l9 hi6 hq hid HD HD2;go_wp2_with fail
       go_roundg (mu z)
       case measure=>exact M1.out
       case rel=>exact HF
      ·have HE:=Hd (show Z=(queueF z,zh)by
        have hs:=step_stop houseB (z,zh) HP.out HD.out.2;have he:=pump_end houseB (z,zh) (by rw[hs])
        rw[hs]at he;rw[←HZ.out,←E1.out,he])
       have L9:=Hd HD.out.1;clear HD;go_wp2_with fail
       refine bodyPost_ret (results_none rfl _ _ _) rfl ⟨rfl,?_⟩;rw[HE.out];exact⟨L9.out.r,L9.out.t⟩
end Go.Proofs.YtjbnfigpflambacGreatDoor
