/- Reference's ScriptOf. pool.Run on any acts. Conditions: those of each lemma. -/
import Derived.Test.YtjbnfigpflambacGreatDoorH40
namespace Go.Proofs.YtjbnfigpflambacGreatDoor
set_option maxRecDepth 100000
set_option maxHeartbeats 16000000
open _root_.Go.Proofs.Tryz
open Go.ChangeShapes Go.WideShapes Go.ChangeAt Go.RowKit
def outH(md:Int)(n:Nat)(l:List Ac):Outc:=
 ⟨(List.range 6).map fun c=>((runM houseB (startF md n,startH) l).1.c c).sent,(runM houseB (startF md n,startH) l).1.deeds,(runM houseB (startF md n,startH) l).2.rows⟩
def outS(md s:Int)(l:List Ac):Outc:=if scriptE md s l=0 then outH md s.toNat l else⟨[],[],[]⟩
def ScriptR(w:World)(md s:Int)(l:List Ac)(e:Ending)(w':World):Prop:=∃vs vd vr,e= .returned (.tuple #[.agg #[vs,vd,vr],.int .i64 (scriptE md s l)])∧OutR w' w.heap.size vs vd vr (outS md s l)∧Below w.heap.size w w'
theorem script_any(w:World)(md s:Int)(v:Value)(l:List Ac)(hl:AcW w v l)(hT:Tabs w):
  Calls Tryz.prog 13 #[.agg #[.int .i64 md,.int .i64 s],v] w (ScriptR w md s l):=by
 have HAL:=Hd hl.acl;have HLB:=Hd hl.len;have HWF:=Hd hl.all;have HT:=Hd hT;obtain⟨A,cap,rfl,_⟩:=hl.acl;obtain⟨L,hL⟩: ∃L,l.length=L:=⟨_,rfl⟩;rw[hL]at HAL HLB⊢;have q1:(L:Int)≤4398046510976:=by have:=HLB.out;omega
 have HL:=Hd hL;obtain⟨E0,hE0⟩: ∃E,setupE md s=E:=⟨_,rfl⟩;have HE0:=Hd hE0;obtain⟨SE,hSE⟩: ∃E,scriptE md s l=E:=⟨_,rfl⟩;have HSE:=Hd hSE;have hs:=fun w=>setupRef_any md s w;rw[hE0]at hs;have XS:=Hd hs;clear hs hE0 hSE hL hl hT;go_enter func13,ntmps13
 go_wp2_with fail
 refine(XS.out _).mono ?_;rintro e w1 ⟨rfl,hb1⟩;have HU:=Hd (RU.after hb1);clear hb1;go_upto_region 2 with fail
 go_cut [29] (fun c wx=>c= .bool (decide (E0=0∧300<L))∧wx=w1)
 case first=>
  rename_i K0 a0 K2 a2 J0 K1 j0 j1;clear a0 a2;as_aux_lemma=>
   by_cases h0:E0=0
   ·subst h0;by_cases h3:300<L
    ·have g1:(300:Int)<(L:Int):=by omega
     go_wp2_with fail
     go_meet;exact⟨by first|(simp[h3];done)|(simp[h3];omega),by first|rfl|trivial⟩
    ·have g1:(L:Int)≤300:=by omega
     go_wp2_with fail
     go_meet;exact⟨by first|(simp[h3];done)|(simp[h3];omega),by first|rfl|trivial⟩
   ·have g1:(E0==0)=false:=by simpa using h0
    go_wp2_with fail
    go_meet;exact⟨by simp[h0],by first|rfl|trivial⟩
 case rest=>
  as_aux_lemma=>
   obtain⟨rfl,rfl⟩:=hcut;obtain⟨b,hb⟩: ∃b,decide (E0=0∧300<L)=b:=⟨_,rfl⟩;rw[hb];have HB:=Hd hb;clear hb;go_upto_if 29 with fail
   go_cut [6] (fun e wx=>e= .int .i64 (if b=true then 1 else E0)∧wx=wc)
   case first=>
    rename_i K0 a0 J0 K1 j0 j1;clear a0;as_aux_lemma=>
     cases b with
     |true=>
      go_wp2_with fail
      go_meet;exact⟨by first|rfl|trivial,by first|rfl|trivial⟩
     |false=>
      go_wp2_with fail
      go_meet;exact⟨by simp,by first|rfl|trivial⟩
   case rest=>
    as_aux_lemma=>
     obtain⟨rfl,hwc⟩:=hcut;subst hwc;obtain⟨E1,hE1⟩: ∃e,(if b=true then 1 else E0)=e:=⟨_,rfl⟩
     rw[hE1];have H300:Hid (E1=0→E0=0∧L≤300):=Hd fun h=>by
      have hb:=HB.out;rw[h]at hE1;cases b with
      |true=>simp at hE1
      |false=>
       have h0:E0=0:=by simpa using hE1
       refine⟨h0,Nat.not_lt.1 fun h3=>?_⟩;simp[h0,h3]at hb
     have HE1:Hid (E1≠0→E1=SE):=Hd fun h=>by
      rw[←HSE.out];unfold scriptE;rw[HE0.out,HL.out];cases b with
      |true=>
       have hb:=HB.out;simp only[decide_eq_true_eq]at hb;rw[if_neg (fun h=>h hb.1),if_pos hb.2];simpa using hE1.symm
      |false=>
       have h1:E0=E1:=by simpa using hE1
       rw[if_pos (by rw[h1];exact h),h1]
     clear hE1;go_upto_block 0 with fail
     go_cut [6] (fun e wx=>e= .int .i64 SE∧Hid (RU w md s wx∧(SE=0→(∀a∈l,AcOk a)∧L≤300∧setupE md s=0)))
     case first=>
      rename_i K0 a0 J0 K1 j0 j1;clear a0;as_aux_lemma=>
       go_wp2_with fail
       go_loopw [6,7] (fun e i wx=>∃(k:Nat) (E:Int),e= .int .i64 E∧i= .int .i64 k∧k≤L∧Hid (RU w md s wx∧(E=0→E1=0∧∀j,j<k→AcOk (l.getD j ac0))∧(E≠0→E=SE))) (fun _ i _=>L-(intOf i).toNat)
       case atStart=>exact⟨0,E1,rfl,rfl,Nat.zero_le _,Hd ⟨HU.out,fun h=>⟨h,fun j hj=>absurd hj (Nat.not_lt_zero _)⟩,HE1.out⟩⟩
       case round=>
        obtain⟨k,E,rfl,rfl,hk,HR⟩:=hrel;by_cases h0:E=0
        ·subst h0;have HOK:=Hd (HR.out.2.1 rfl);have hL3:=(H300.out HOK.out.1).2;have HR1:=Hd HR.out.1;clear HR;by_cases hlt:k<L
         ·have g1:(k:Int)<(L:Int):=by omega
          have g2:(0:Int)≤(k:Int):=by omega
          obtain⟨ad,hA,hB,ha⟩:=ac_at (HAL.out.below HR1.out.bel) HL.out hlt;subst hA;obtain⟨⟨ak,ac,adt⟩,hx⟩: ∃x,l.getD k ⟨0,0,⟨#[]⟩⟩=x:=⟨_,rfl⟩;rw[hx]at ha;have hx':l.getD k ac0=⟨ak,ac,adt⟩:=hx;have hmem:(⟨ak,ac,adt⟩:Ac)∈l:=by
           rw[←hx',ac_getD (by rw[HL.out];exact hlt)]
           exact List.getElem_mem _
          obtain⟨w0,w1',w2⟩:=HWF.out _ hmem;simp only at w0 w1' w2;unfold maxLen at w2;obtain⟨a0,a1,a2⟩:=ha;simp only at a0 a1 a2;have HX:=Hd hx';have bad:actE ak ac adt≠0→actE ak ac adt=SE:=fun h=>by
           have h1:=actsE_here (l:=l) (j:=k) (by rw[HL.out];exact hlt) HOK.out.2 (by rw[HX.out];exact h)
           rw[HX.out]at h1;rw[←HSE.out];unfold scriptE;obtain⟨h2,h3⟩:=H300.out HOK.out.1;rw[HE0.out,HL.out,if_neg (fun hh=>hh h2),if_neg (by omega)]
           exact h1.symm
          have HBAD:=Hd bad;have good:AcOk ⟨ak,ac,adt⟩→∀j,j<k+1→AcOk (l.getD j ac0):=fun h j hj=>by
           rcases Nat.lt_succ_iff_lt_or_eq.1 hj with h2|h2
           ·exact HOK.out.2 j h2
           ·rw[h2,HX.out];exact h
          have HGOOD:=Hd good;clear hx hx' hmem bad good;by_cases k1:ak<1∨2<ak
          ·have HE:=Hd (show actE ak ac adt=3 by unfold actE;rw[if_pos k1])
           go_wp2_with fail
           refine(in_no ak 1 2 _ k1).mono ?_;rintro e w3 ⟨rfl,rfl⟩;go_wp2_with fail
           go_roundw
           case rel=>exact⟨k+1,3,rfl,by go_num,by omega,Hd ⟨HR1.out,fun h=>absurd h (by decide),fun _=>by rw[←HE.out];exact HBAD.out (by rw[HE.out];decide)⟩⟩
           case measure=>simp[intOf];omega
          ·by_cases k2:ac<0∨6≤ac
           ·have HE:=Hd (show actE ak ac adt=2 by unfold actE;rw[if_neg k1,if_pos k2])
            go_wp2_with fail
            refine(in_yes ak 1 2 _ (by omega) (by omega)).mono ?_
            rintro e w3 ⟨rfl,rfl⟩;go_wp2_with fail
            refine(in_no ac 0 5 _ (by omega)).mono ?_
            rintro e w3 ⟨rfl,rfl⟩;go_wp2_with fail
            go_roundw
            case rel=>exact⟨k+1,2,rfl,by go_num,by omega,Hd ⟨HR1.out,fun h=>absurd h (by decide),fun _=>by rw[←HE.out];exact HBAD.out (by rw[HE.out];decide)⟩⟩
            case measure=>simp[intOf];omega
           ·by_cases k3:1000<adt.size
            ·have HE:=Hd (show actE ak ac adt=1 by unfold actE;rw[if_neg k1,if_neg k2,if_pos k3])
             have g3:(1000:Int)<(adt.size:Int):=by omega
             go_wp2_with fail
             refine(in_yes ak 1 2 _ (by omega) (by omega)).mono ?_
             rintro e w3 ⟨rfl,rfl⟩;go_wp2_with fail
             refine(in_yes ac 0 5 _ (by omega) (by omega)).mono ?_
             rintro e w3 ⟨rfl,rfl⟩;go_wp2_with fail
             go_roundw
             case rel=>exact⟨k+1,1,rfl,by go_num,by omega,Hd ⟨HR1.out,fun h=>absurd h (by decide),fun _=>by rw[←HE.out];exact HBAD.out (by rw[HE.out];decide)⟩⟩
             case measure=>simp[intOf];omega
            ·have HE:=Hd (show AcOk ⟨ak,ac,adt⟩from⟨by show ak=1∨ak=2;omega,by show 0≤ac;omega,by show ac<6;omega,by show adt.size≤1000;omega⟩)
             have g3:(adt.size:Int)≤1000:=by omega
             go_wp2_with fail
             refine(in_yes ak 1 2 _ (by omega) (by omega)).mono ?_
             rintro e w3 ⟨rfl,rfl⟩;go_wp2_with fail
             refine(in_yes ac 0 5 _ (by omega) (by omega)).mono ?_
             rintro e w3 ⟨rfl,rfl⟩;go_wp2_with fail
             go_roundw
             case rel=>exact⟨k+1,0,rfl,by go_num,by omega,Hd ⟨HR1.out,fun _=>⟨HOK.out.1,HGOOD.out HE.out⟩,fun h=>absurd rfl h⟩⟩
             case measure=>simp[intOf];omega
         ·have g1:(L:Int)≤(k:Int):=by omega
          have HF:=Hd (show(0:Int)=SE∧(∀a∈l,AcOk a)∧L≤300∧setupE md s=0 by
           have hall: ∀i,i<l.length→AcOk (l.getD i ac0):=fun i hi=>HOK.out.2 i (by rw[HL.out]at hi;omega)
           obtain⟨h2,h3⟩:=H300.out HOK.out.1;refine⟨?_,fun a ha=>?_,h3,by rw[HE0.out];exact h2⟩
           ·rw[←HSE.out];unfold scriptE;rw[HE0.out,HL.out,if_neg (fun hh=>hh h2),if_neg (by omega)]
            exact(actsE_none hall).symm
           ·obtain⟨i,hi,rfl⟩:=List.getElem_of_mem ha;rw[←ac_getD hi];exact hall i hi)
          go_wp2_with fail
          go_meet;exact⟨by rw[←HF.out.1],Hd ⟨HR1.out,fun _=>HF.out.2⟩⟩
        ·have e0:(E==0)=false:=by simpa using h0
         have HSE2:=Hd (HR.out.2.2 h0);have HR1:=Hd HR.out.1;have HNE:=Hd (show SE≠0 by rw[←HSE2.out];exact h0)
         clear HR;by_cases hlt:k<L
         ·have g1:(k:Int)<(L:Int):=by omega
          go_wp2_with fail
          go_meet;exact⟨by rw[HSE2.out],Hd ⟨HR1.out,fun h=>absurd h HNE.out⟩⟩
         ·have g1:(L:Int)≤(k:Int):=by omega
          go_wp2_with fail
          go_meet;exact⟨by rw[HSE2.out],Hd ⟨HR1.out,fun h=>absurd h HNE.out⟩⟩
     case rest=>
      as_aux_lemma=>
       obtain⟨rfl,HC⟩:=hcut;by_cases hz:SE=0
       ·subst hz;obtain⟨hall,hL3,hset⟩:=HC.out.2 rfl;have HU1:=Hd HC.out.1;obtain⟨n,hn,hn1,hn4⟩: ∃n:Nat,s=(n:Int)∧1≤n∧n≤4:=by
         unfold setupE at hset;split at hset
         ·cases hset
         split at hset
         ·cases hset
         ·exact⟨s.toNat,by omega,by omega,by omega⟩
        subst hn;have HOK:=Hd hall;have HGD:=Hd (fun i (hi:i<L)=>show AcOk (l.getD i ac0)by rw[ac_getD (by rw[HL.out];exact hi)];exact hall _ (List.getElem_mem _))
        have HMG:=Hd made_guests;have HMS:=Hd made_ses6;have s0:=HU1.out.set.cell_ 0 _ rfl;have s1:=HU1.out.set.cell_ 1 _ rfl;clear HC hall hset H300 HE1 HB HE0 XS HU;go_upto_region 15 with fail
        refine region_sg [] ?_;refine anyB_sg [0] 4 ?_;go_wp2_with fail
        refine sg_o ?_;clear s0 s1;have U0:=Hd (HU1.out.keep bR.drew);generalize wc.drew=x0 at U0⊢;refine anyB_on 1 fun K hK=>?_;go_simp;rw[HMG.out];go_simp;refine thK hK (boxed _ _) ?_;clear hK K;have G:=Hd (Blk.new x0 113 (zcG 6).toArray);have U1:=Hd (U0.out.keep (boxed x0 (.cells (zcG 6).toArray 113)));obtain⟨ga,hga⟩: ∃z,x0.heap.size=z:=⟨_,rfl⟩;have hga0:w.heap.size≤ga:=by rw[←hga];exact U0.out.bel.size
        rw[hga]at G⊢;clear hga U0 HU1;generalize World.alloc _ _=x1 at G U1⊢;refine anyB_sg [2] 2 ?_;go_wp2_with fail
        refine sg_o ?_;refine anyB_on 3 fun K hK=>?_;go_simp;refine thK hK (boxed _ _) ?_;clear hK K;refine anyB_sg [4] 0 ?_;go_wp2_with fail
        refine sg_o ?_;refine anyB_dn ?_;have D:=Hd (Blk.new x1 110 #[.int .i64 md,.int .i64 (n:Nat),.slice none 0 0,.slice none 0 0,.slice (some ⟨ga,0,none⟩) 6 6,.slice none 0 0,.slice none 0 0,.slice none 0 0]);have hbx:=boxed x1 (.cells #[.int .i64 md,.int .i64 (n:Nat),.slice none 0 0,.slice none 0 0,.slice (some ⟨ga,0,none⟩) 6 6,.slice none 0 0,.slice none 0 0,.slice none 0 0] 110);have U2:=Hd (U1.out.keep hbx);have G2:=Hd (G.out.keep hbx);obtain⟨p,hp⟩: ∃z,x1.heap.size=z:=⟨_,rfl⟩;have hp0:w.heap.size≤p:=by rw[←hp];exact U1.out.bel.size
        rw[hp]at D⊢;clear hp hbx G U1;generalize World.alloc _ _=x2 at D U2 G2⊢;have I2:=Hd (show HouI x2 w.heap.size p ga (.slice none 0 0) (.slice none 0 0) md n 0 0 from⟨D.out,allR_new G2.out md n,OwnO.nil _ _ _ _,.inl rfl,hp0,hga0⟩);clear D G2 hp0 hga0;have y3:x2.cell? ⟨p,3,none⟩=some (.slice none 0 0):=I2.out.blk.cell_ 3 _ rfl;have fp:=I2.out.blk.frozen;have hlp:=I2.out.blk.lt;have npz:=Nat.ne_of_lt hlp;have hbx:=boxed x2 (.cells (zcS 6).toArray 133);have y3':=keep_cell hbx y3;have r1:=(I2.out.below hbx).putSes (zcS_osl (Blk.new x2 _ _) I2.out.leB (by omega))
        have HI3:=Hd r1.1;have HU3:=Hd ((U2.out.keep hbx).hf r1.2);obtain⟨gs,hgs⟩: ∃z,x2.heap.size=z:=⟨_,rfl⟩;have hms:=HMS.out;have fp':=(I2.out.below hbx).blk.frozen;clear r1 hbx I2 U2;go_upto_region 17 with fail
        rw[hgs]at HI3 HU3;clear y3 y3' fp fp' hlp npz hgs hms;generalize World.setCell _ _ _=x3 at HI3 HU3⊢;go_upto_block 2 with fail
        go_cut [] (fun wx=>Hid (∃ow,HouI wx w.heap.size p ga (.slice (some ⟨gs,0,none⟩) 6 6) ow md n n 0∧RU w md n wx))
        case first=>
         rename_i K0 a0 J0 K1 j0 j1;clear a0;as_aux_lemma=>
          go_wp2_with fail
          go_loopw [9] (fun i wx=>∃k:Nat,k≤n∧i= .int .i64 k∧Hid (∃ow,HouI wx w.heap.size p ga (.slice (some ⟨gs,0,none⟩) 6 6) ow md n k 0∧RU w md n wx)) (fun i _=>n-(intOf i).toNat)
          case atStart=>exact⟨0,Nat.zero_le _,rfl,Hd ⟨_,HI3.out,HU3.out⟩⟩
          case round=>
           obtain⟨k,hk,rfl,HI⟩:=hrel;obtain⟨ow,h1,h2⟩:=HI.out;have H1:=Hd h1;have H2:=Hd h2;have s1:=h2.set.cell_ 1 _ rfl;clear h1 h2;by_cases hlt:k<n
           ·have g1:(k:Int)<(n:Int):=by omega
            have g2:(0:Int)≤(k:Int):=by omega
            obtain⟨Ao,ko,eo,_⟩:=H1.out.own.form;have y5:wr.cell? ⟨p,5,none⟩=some ow:=H1.out.blk.cell_ 5 _ rfl;have HE:=Hd eo;rw[eo]at y5;clear eo;go_upto_region 20 with fail
            obtain⟨i0,hi0,hz0,hz1,hz2⟩:=info_parts int_info;have D:=Hd (Blk.new wr 3 #[.int .i64 (-1)]);have hbx:=boxed wr (.cells #[.int .i64 (-1)] 3);have H3:=Hd (H1.out.below hbx);have H4:=Hd (H2.out.keep hbx);have ho3:=H3.out.own;rw[HE.out]at ho3;have HO3:=Hd ho3;have HB3:=Hd H3.out.leB;clear ho3 hbx;go_wp2_with (at_builtin;refine wpList_append_o _ rfl _ _ 87 rfl w.heap.size 3 i0 _ 1 8 underlying87 hi0 hz0 hz1 hz2 rfl (by decide) (.slice Ao k ko) k (List.replicate k (.int .i64 (-1))) rfl HO3.out _ (some ⟨wr.heap.size,0,none⟩) 1 1 [.int .i64 (-1)] rfl (reads_int D.out) (by intro u hu;simp only[List.mem_cons,List.not_mem_nil,or_false]at hu;subst hu;rfl) (le_maxLen (by omega)) (by omega) HB3.out ?_)
            intro v' w4 ho hg hn';obtain⟨A7,k7,e7,_⟩:=ho.form;obtain⟨r7,t7,y6,fq⟩:=H3.out.add (v:=v') (by rw[List.replicate_succ'];exact ho) (by rw[HE.out];exact hg)
            rw[HE.out]at y6;have S7:=Hd (And.intro r7 (H4.out.hf t7));subst e7;clear r7 t7 ho hg hn' D H3 H4 HO3 HB3 hi0 hz0 hz1 hz2;go_wp2_with fail
            generalize World.setCell _ _ _=w5 at S7⊢;go_wp2_with fail
            go_roundw
            case rel=>exact⟨k+1,by omega,by go_num,Hd ⟨_,S7.out.1,S7.out.2⟩⟩
            case measure=>simp[intOf];omega
           ·have g1:(n:Int)≤(k:Int):=by omega
            obtain rfl:k=n:=by omega
            go_wp2_with fail
            go_meet;exact Hd ⟨ow,H1.out,H2.out⟩
        case rest=>
         as_aux_lemma=>
          have HC2:=hcut;obtain⟨ow,h1,h2⟩:=HC2.out;have HI4:=Hd h1;have HU4:=Hd h2;clear hcut HC2 h1 h2 HI3 HU3;go_upto_block 4 with fail
          go_cut [] (fun wx=>Hid (HouI wx w.heap.size p ga (.slice (some ⟨gs,0,none⟩) 6 6) ow md n n 6∧RU w md n wx))
          case first=>
           rename_i K0 a0 J0 K1 j0 j1;clear a0;as_aux_lemma=>
            go_wp2_with fail
            go_loopw [10] (fun i wx=>∃k:Nat,k≤6∧i= .int .i64 k∧Hid (HouI wx w.heap.size p ga (.slice (some ⟨gs,0,none⟩) 6 6) ow md n n k∧RU w md n wx)) (fun i _=>6-(intOf i).toNat)
            case atStart=>exact⟨0,Nat.zero_le _,rfl,Hd ⟨HI4.out,HU4.out⟩⟩
            case round=>
             obtain⟨k,hk,rfl,HI⟩:=hrel;by_cases hlt:k<6
             ·have g1:(k:Int)<6:=by omega
              have g2:(0:Int)≤(k:Int):=by omega
              have y4:wr.cell? ⟨p,4,none⟩=some (.slice (some ⟨ga,0,none⟩) 6 6):=HI.out.1.blk.cell_ 4 _ rfl;have x2:wr.cell? ⟨ga,k*4+2,none⟩=some (.int .i64 ((fI md n k).c k).srv):=HI.out.1.all.cell hlt (by decide)
              have fp:=HI.out.1.all.frozen;have r:=HI.out.1.srv hlt;have S7:=Hd (And.intro r.1 (HI.out.2.hf r.2));clear r;go_wp2_with fail
              go_roundw
              case rel=>exact⟨k+1,by omega,by go_num,Hd ⟨S7.out.1,S7.out.2⟩⟩
              case measure=>simp[intOf];omega
             ·have g1:(6:Int)≤(k:Int):=by omega
              obtain rfl:k=6:=by omega
              go_wp2_with fail
              go_meet;exact Hd ⟨HI.out.1,HI.out.2⟩
          case rest=>
           as_aux_lemma=>
            have S0:=Hd (show ScrS w wc p ga gs (startF md n) startH from⟨⟨_,_,hcut.out.1.toR⟩,hcut.out.2.bel,hcut.out.2.out⟩);clear hcut HI4 HU4;go_upto_block 6 with fail
            go_cut [] (fun wx=>Hid (ScrS w wx p ga gs (runM houseB (startF md n,startH) l).1 (runM houseB (startF md n,startH) l).2))
            case first=>
             rename_i K0 a0 J0 K1 j0 j1;clear a0;as_aux_lemma=>
              go_wp2_with fail
              go_loopw [11] (fun i wx=>∃m:Nat,m≤L∧i= .int .i64 m∧Hid (ScrS w wx p ga gs (runM houseB (startF md n,startH) (l.take m)).1 (runM houseB (startF md n,startH) (l.take m)).2)) (fun i _=>L-(intOf i).toNat)
              case atStart=>exact⟨0,Nat.zero_le _,rfl,Hd S0.out⟩
              case round=>
               obtain⟨m,hmL,rfl,HS⟩:=hrel;by_cases hlt:m<L
               ·have g1:(m:Int)<(L:Int):=by omega
                have g2:(0:Int)≤(m:Int):=by omega
                have hml:m<l.length:=by rw[HL.out];exact hlt
                have hst:=run_stepH (startF md n,startH) l hml;have hok:=run_take_okH md n (by omega) HOK.out m (Nat.le_of_lt hml)
                obtain⟨ad,hA,hB,ha⟩:=ac_at (HAL.out.below HS.out.bel) HL.out hlt;obtain⟨k1,c0,c6,d1⟩:=HGD.out m hlt;subst hA;have hl0:l.getD m ac0=l[m]:=ac_getD hml;rw[show l.getD m ⟨0,0,⟨#[]⟩⟩=l[m]from hl0]at ha;rw[hl0]at k1 c0 c6 d1;obtain⟨⟨ak,ac,adt⟩,hx⟩: ∃x,l[m]=x:=⟨_,rfl⟩;rw[hx]at ha k1 c0 c6 d1 hst;obtain⟨a0,a1,a2⟩:=ha;simp only at a0 a1 a2 k1 c0 c6 d1;obtain⟨cn,hcn⟩: ∃c:Nat,ac=(c:Int):=⟨ac.toNat,by omega⟩
                subst hcn;obtain⟨⟨f3,h3⟩,hz3⟩: ∃z,runM houseB (startF md n,startH) (l.take m)=z:=⟨_,rfl⟩;rw[hz3]at HS hst hok;have HS3:Hid (ScrS w wr p ga gs f3 h3):=HS;have HK3:=Hd hok;have HST:=Hd hst;have HC6:=Hd (show cn<6 by omega)
                have HCL:=Hd hok.fi.six;have HN3:=Hd (show m*1000+adt.size≤1000000 by omega)
                have fin: ∀(w5:World) (z:Fr × Wo),actM houseB (f3,h3) ⟨ak,(cn:Int),adt⟩=z→ScrS w w5 p ga gs z.1 z.2→ScrS w w5 p ga gs (runM houseB (startF md n,startH) (l.take (m+1))).1 (runM houseB (startF md n,startH) (l.take (m+1))).2:=fun w5 z h1 h2=>by rw[HST.out,h1];exact h2
                have FIN:=Hd fin;clear hst hok hx hz3 HS hl0 fin;rcases k1 with rfl|rfl
                ·have gc1:(cn:Int)<6:=by omega
                 have gc2:(0:Int)≤(cn:Int):=by omega
                 obtain⟨⟨V3,cs3,r3⟩,-,-⟩:=HS3.out;have R3:=Hd r3;have y4:wr.cell? ⟨p,4,none⟩=some (.slice (some ⟨ga,0,none⟩) 6 6):=r3.blk.cell_ 4 _ rfl;have b0:wr.cell? ⟨ga,cn*4,none⟩=some (.string (f3.c cn).bytes):=r3.all.cell (k:=0) HC6.out (by decide)
                 have fp:=r3.all.frozen;have hbs:=HK3.out.fit.bytes (i:=cn) (by rw[HCL.out];exact HC6.out)
                 simp only at hbs;obtain⟨x0,hx0⟩: ∃x0:Cl,⟨(f3.c cn).bytes++adt,(f3.c cn).pend,(f3.c cn).srv,(f3.c cn).sent⟩=x0:=⟨_,rfl⟩;have HX0:=Hd hx0;have HPN:=Hd (show pN x0≤m*1000+adt.size by
                  rw[←hx0];unfold pN;simp only[ByteArray.size_append];omega)
                 have rp:=r3.putBytes HCL.out HC6.out ((f3.c cn).bytes++adt);rw[hx0]at rp;have RP:=Hd rp;obtain⟨by1,hb1⟩: ∃s,(f3.c cn).bytes=s:=⟨_,rfl⟩;rw[hb1]at b0 hbs RP;have d2:by1.size≤300000:=by omega
                 have d3:by1.size+adt.size≤301000:=by omega
                 have d4:(by1++adt).size≤301000:=by rw[ByteArray.size_append];exact d3
                 clear r3 rp hx0 hb1 hbs;go_upto_region 31 with fail
                 refine region_sg [21] ?_;refine anyB_sg [0,1,2,3,4,5,6,7,8,9,10,11,12,13,14,15,16,17,18,19,20] 1 ?_;go_wp2_with fail
                 refine sg_o ?_;refine anyB_on 21 fun K hK=>?_;go_simp;refine lateK hK ?_;clear hK K;refine anyB_dn ?_;have S4:=Hd ((HS3.out.did ⟨V3,cs3,RP.out.1⟩ RP.out.2).keep bR.drew);clear y4 b0 fp d2 d3 d4 a0 a1 a2 RP R3 HS3;generalize World.drew _=x4 at S4⊢;have HAM:=Hd (show actM houseB (f3,h3) ⟨1,(cn:Int),adt⟩=deliverM houseB (f3,h3) cn adt by unfold actM;rw[if_neg (show ¬ (1:Int)=2 by decide)];rfl)
                 have HPO:=Hd (HK3.out.pour HC6.out adt);have HPX:=Hd (show pourC (f3.c cn) adt=feedC x0 by unfold pourC;rw[HX0.out])
                 go_upto_block 8 with fail
                 go_cut [13] (fun g wx=>(g= .bool true∧Hid (∃z,ScrS w wx p ga gs z.1 z.2∧OkH z (m*1000+adt.size)∧actM houseB (f3,h3) ⟨1,(cn:Int),adt⟩=pumpM houseB (closeM houseB z cn)))∨(g= .bool false∧Hid (∃z,ScrS w wx p ga gs z.1 z.2∧OkH z (m*1000+adt.size)∧actM houseB (f3,h3) ⟨1,(cn:Int),adt⟩=pumpM houseB z)))
                 case first=>
                  rename_i K0 a0 J0 K1 j0 j1;clear a0;as_aux_lemma=>
                   go_wp2_with fail
                   go_loopg [13] (x0.bytes.size+1) (fun k g wr=>g= .bool false∧Hid (PouL w wr p ga gs f3 h3 cn (m*1000+adt.size) x0 k))
                   case atStart=>exact⟨rfl,Hd ⟨x0,Nat.lt_succ_self _,rfl,HPN.out,S4.out⟩⟩
                   case round=>
                    obtain⟨rfl,hrel2⟩:=hrel;have HLL:=Hd hrel2.out;clear hrel2;obtain⟨x,hlt2,hfe,hpn,s1⟩:=HLL.out;have HLT:=Hd hlt2;have HFE:=Hd hfe;have HP2:=Hd hpn;have SS1:=Hd s1;obtain⟨⟨V1,cs1,r1⟩,-,-⟩:=s1;have R1:=Hd r1;have XC:=Hd (c_same f3 (i:=cn) (by rw[HCL.out];exact HC6.out) x)
                    have HXL:=Hd (show(f3.set cn x).cl.length=6 by rw[len_set];exact HCL.out)
                    obtain⟨by0,hb0⟩: ∃s,x.bytes=s:=⟨_,rfl⟩;have HB0:=Hd hb0;have y4:wr.cell? ⟨p,4,none⟩=some (.slice (some ⟨ga,0,none⟩) 6 6):=r1.blk.cell_ 4 _ rfl;have b0:wr.cell? ⟨ga,cn*4,none⟩=some (.string by0):=by
                     rw[←hb0,←XC.out];exact r1.all.cell (k:=0) HC6.out (by decide)
                    have hsz:by0.size≤1000000:=by
                     have h1:=HN3.out;unfold pN at hpn;rw[hb0]at hpn;omega
                    have HMX:=Hd (le_maxLen (show by0.size≤140737488351232 by omega))
                    clear hlt2 hfe hpn r1 hb0 HLL;go_wp2_with fail
                    refine(unpacked_any by0 _ HMX.out).mono ?_;rintro e w3 ⟨rfl,b3⟩;by_cases hw:wholeB by0=true
                    ·rw[if_pos hw];obtain⟨h2,h4⟩:=head_le hw;have HW:=Hd hw;obtain⟨hd,hhd⟩: ∃n,headN by0=n:=⟨_,rfl⟩;obtain⟨tx,htx⟩: ∃t,textAt by0=t:=⟨_,rfl⟩;obtain⟨kv,hkv⟩: ∃k,kindAt by0=k:=⟨_,rfl⟩;obtain⟨kn,hkn⟩: ∃k:Nat,kv.toNat=k:=⟨_,rfl⟩;rw[hhd]at h2 h4⊢;rw[htx,hkv,hkn];have HHD:=Hd hhd;have HTX:=Hd htx;have HKV:=Hd hkv;have HKN:=Hd hkn;have q2:¬ ((hd:Int)=0):=by omega
                     have q3:((hd:Int)==0)=false:=by simpa using q2
                     have q4:(hd:Int)≤(by0.size:Int):=by omega
                     have q5:(0:Int)≤(hd:Int):=by omega
                     have y4:=keep_cell b3 y4;have b0:=keep_cell b3 b0;have SS3:=Hd (SS1.out.keep b3);have R3:=Hd (R1.out.below b3);have fp:=R3.out.all.frozen;have hre:by0.extract hd by0.size=restAt by0:=by unfold restAt;rw[HHD.out]
                     have HRE:=Hd hre;clear b3 hw hhd htx hkv hkn hre R1 SS1;go_upto_region 35 with fail
                     refine region_sg [17] ?_;refine anyB_sg [0,1,2,3,4,5,6,7,8,9,10,11,12,13,14,15,16] 1 ?_;go_wp2_with fail
                     refine sg_o ?_;refine anyB_on 17 fun K hK=>?_;go_simp;refine lateK hK ?_;clear hK K;refine anyB_dn ?_;obtain⟨xx,hxx⟩: ∃xx:Cl,⟨restAt by0,x.pend,x.srv,x.sent⟩=xx:=⟨_,rfl⟩;have HXX:=Hd hxx;have r4:=R3.out.putBytes HXL.out HC6.out (restAt by0);rw[XC.out,set_c,hxx,←HRE.out]at r4;have SS4:=Hd ((SS3.out.did ⟨V1,cs1,r4.1⟩ r4.2).keep bR.drew);clear r4 hxx SS3 R3 y4 b0 fp;generalize World.drew _=x5 at SS4⊢;by_cases h88:kn=88
                     ·subst h88;have hfx:feedC x=(xx,true):=by
                       rw[feedC,dif_pos (by rw[HB0.out];exact HW.out),if_pos (by rw[HB0.out,HKV.out];exact UInt8.toNat_inj.1 HKN.out)]
                       rw[HB0.out,HXX.out]
                      have hpo:pourC (f3.c cn) adt=(xx,true):=by rw[HPX.out,←HFE.out,hfx]
                      have hok:=HPO.out;simp only[hpo]at hok;have HK1:=Hd hok;have HE:=Hd (show actM houseB (f3,h3) ⟨1,(cn:Int),adt⟩=pumpM houseB (closeM houseB (pumpM houseB (f3.set cn xx,h3)) cn)by
                       rw[HAM.out];unfold deliverM;simp only[hpo];rfl)
                      obtain⟨⟨V4,cs4,r4⟩,-,-⟩:=SS4.out;have R4:=Hd r4;clear hfx hpo hok r4;go_wp2_with fail
                      refine(on_any _ w.heap.size p ga gs 6 V4 cs4 (f3.set cn xx) h3 (m*1000+adt.size) R4.out (SS4.out.tab HT.out) HK1.out HN3.out).mono ?_;rintro e w5 ⟨rfl,r5,t5⟩;have SF:=Hd (SS4.out.did r5 t5);clear r5 t5;go_wp2_with fail
                      go_meet;exact .inl ⟨by first|rfl|trivial,Hd ⟨_,SF.out,HK1.out.pump,HE.out⟩⟩
                     ·have hfx:feedC x=feedC ⟨restAt by0,x.pend++[askedOf by0],x.srv,x.sent⟩:=by
                       rw[feedC,dif_pos (by rw[HB0.out];exact HW.out),if_neg (by rw[HB0.out,HKV.out];exact fun e=>h88 (by rw[←HKN.out,e];rfl))]
                       rw[HB0.out]
                      have HFX:=Hd hfx;have n1:¬ ((kn:Int)=88):=by omega
                      have n2:((kn:Int)==88)=false:=by simpa using n1
                      have hrd:=fun w hT=>stmtOf_any tx (by rw[←HTX.out];exact Nat.le_trans (textAt_size by0) (by decide)) w hT
                      obtain⟨ev,hev⟩: ∃e,readE tx=e:=⟨_,rfl⟩;obtain⟨⟨sK,sk,sv⟩,hst2⟩: ∃s,readS tx=s:=⟨_,rfl⟩;rw[hev,hst2]at hrd;have HRD:=Hd hrd;have HA1:=Hd (show(askedOf by0).1=⟨sK,sk,sv⟩by unfold askedOf;rw[HTX.out];exact hst2)
                      have HEV:=Hd hev;clear hfx hrd hev hst2;go_wp2_with fail
                      refine(HRD.out _ (SS4.out.tab HT.out).tabs).mono ?_;rintro e x6 ⟨rfl,b5⟩;unfold St.v;have SS5:=Hd (SS4.out.keep b5);clear b5 SS4;go_upto_region 40 with fail
                      have D5:=Blk.new x6 41 #[.int .i64 sK,.string sk,.string sv];have SS6:=Hd (SS5.out.keep (boxed x6 (.cells #[.int .i64 sK,.string sk,.string sv] 41)));obtain⟨z5,hz5⟩: ∃z,x6.heap.size=z:=⟨_,rfl⟩;rw[hz5]at D5;try rw[hz5]
                      clear SS5 hz5;generalize World.alloc _ _=x7 at D5 SS6⊢;have HF2:=Hd (fun(wx:World) (s2:ScrS w wx p ga gs (f3.set cn ⟨restAt by0,x.pend++[askedOf by0],x.srv,x.sent⟩) h3)=>show PouL w wx p ga gs f3 h3 cn (m*1000+adt.size) x0 x.bytes.size from⟨_,by rw[HB0.out];exact rest_lt HW.out,by rw[←HFX.out];exact HFE.out,by
                       have h1:=HP2.out;have h2:=rest_le by0 HW.out;unfold pN at h1⊢;rw[HB0.out]at h1;simp only[List.length_append,List.length_singleton];omega,s2⟩)
                      have XX:=Hd (c_same f3 (i:=cn) (by rw[HCL.out];exact HC6.out) xx)
                      have HXXL:=Hd (show(f3.set cn xx).cl.length=6 by rw[len_set];exact HCL.out)
                      obtain⟨⟨V6,cs6,r6⟩,-,-⟩:=SS6.out;have hw6:=r6.wait cn HC6.out;rw[XX.out,←HXX.out]at hw6;simp only at hw6;obtain⟨A1,k1,e1,_⟩:=hw6.form;obtain⟨np,hnp⟩: ∃n,x.pend.length=n:=⟨_,rfl⟩;have hl1:np≤1000000:=by
                       have h1:=HP2.out;have h2:=HN3.out;unfold pN at h1;omega
                      have y4:x7.cell? ⟨p,4,none⟩=some (.slice (some ⟨ga,0,none⟩) 6 6):=r6.blk.cell_ 4 _ rfl;have y1:x7.cell? ⟨ga,cn*4+1,none⟩=some (V6.wait cn):=r6.all.cell HC6.out (by decide)
                      rw[hnp]at e1;rw[e1]at y1;have f0:=D5.cell_ 0 _ rfl;have f1:=D5.cell_ 1 _ rfl;have f2:=D5.cell_ 2 _ rfl;have HNP:=Hd hnp;have HLP:=Hd hl1;have E1W:=Hd e1;have SS0:=Hd (SS6.out.keep bR.drew);have R0:=Hd (r6.below bR.drew);obtain⟨i0,hi0,hz0,hz1,hz2⟩:=info_parts asked_info;clear hw6 e1 hnp hl1 r6 SS6 D5;by_cases h81:kn=81
                      ·subst h81;obtain⟨bv,hbv⟩: ∃b,(ev==0)=b:=⟨_,rfl⟩;have HBD:=Hd (show askV [askedOf by0]=[.int .i64 sK,.string sk,.string sv,.bool (ev==0)]by
                        have h2:(askedOf by0).2=!(ev==0):=by
                         unfold askedOf;simp only;rw[HKV.out,HTX.out,HEV.out,show kv=81 from UInt8.toNat_inj.1 HKN.out];by_cases h:ev=0<;>simp[h]
                        show [Value.int .i64 (askedOf by0).1.k,.string (askedOf by0).1.key,.string (askedOf by0).1.val,.bool (!(askedOf by0).2)]=_;rw[h2,HA1.out,Bool.not_not])
                       clear hbv bv;refine region_sg [22,25] ?_;refine anyB_sg [0,1,2,4,5,6,7,8,9,10,11,12,13,14,15,16,17,18,19,20] 6 ?_;go_wp2_with fail
                       refine sg_o ?_;clear y4 y1 f0 f1 f2;have SS:=SS0;have R:=R0;clear SS0 R0;generalize World.drew _=v at SS R⊢;have Y:=Hd (show v.cell? ⟨p,4,none⟩=some (.slice (some ⟨ga,0,none⟩) 6 6)from R.out.blk.cell_ 4 _ rfl);refine anyB_tw 3 21 (fun K hK=>?_) fun K hK=>?_
                       ·have y:=Y.out;go_simp;refine thK hK bR ?_;clear hK K;clear y;refine anyB_on 21 fun K hK=>?_;go_simp;refine thK hK (boxed _ _) ?_;clear hK K;have D:=Hd (Blk.new v 117 #[.int .i64 sK,.string sk,.string sv,.bool (ev==0)]);have hbx:=boxed v (.cells #[.int .i64 sK,.string sk,.string sv,.bool (ev==0)] 117);have SS:=Hd (SS.out.keep hbx);have R:=Hd (R.out.below hbx);have Y:=Hd (keep_cell hbx Y.out);obtain⟨zd,hzd⟩: ∃z,v.heap.size=z:=⟨_,rfl⟩;rw[hzd]at D⊢;clear hbx hzd;generalize World.alloc _ _=v at D SS R Y⊢;refine anyB_on 22 fun K hK=>?_;have ho7:=R.out.wait cn HC6.out;rw[XX.out,←HXX.out]at ho7;simp only at ho7;rw[HNP.out,E1W.out]at ho7;have HO7:=Hd ho7;have HB7:=Hd R.out.leB;clear ho7;rw[if_pos (by rfl)]
                        refine wp_append_o _ _ _ _ rfl w.heap.size 117 i0 _ 4 48 underlying111 hi0 hz0 hz1 hz2 rfl (by decide) (.slice A1 np k1) np (askV x.pend) rfl HO7.out v.heap.size (some ⟨zd,0,none⟩) 1 1 [.int .i64 sK,.string sk,.string sv,.bool (ev==0)] rfl (reads_one D.out rfl) (by intro u hu;simp only[List.mem_cons,List.not_mem_nil,or_false]at hu;rcases hu with rfl|rfl|rfl|rfl<;>rfl) (le_maxLen (by have:=HLP.out;omega)) (by have:=HLP.out;omega) HB7.out ?_
                        intro v' xa ho hg hn';refine lateK hK ?_;clear hK K;obtain⟨A7,k7,e7,_⟩:=ho.form;have Y:=Hd (show xa.cell? ⟨p,4,none⟩=some (.slice (some ⟨ga,0,none⟩) 6 6)from Blk.cell_ (((R.out.wait cn HC6.out).grow' (by rw[E1W.out];exact hg) (by decide)) p _ (0,0) R.out.blk) 4 _ rfl)
                        obtain⟨ra,ba,y6,fq,kp⟩:=R.out.appWait HXXL.out HC6.out (v:=v') (l:=x.pend++[askedOf by0]) (by rw[List.length_append,askV_app,HBD.out,HNP.out];exact ho) (by rw[E1W.out];exact hg) (by rw[E1W.out];exact hn')
                        rw[E1W.out]at y6;rw[XX.out,set_c,←HXX.out]at ra;simp only at ra;have SF:=Hd (HF2.out _ ⟨⟨_,_,ra⟩,SS.out.bel.trans ba,kp _ (by decide) (by decide) _ _ (0,0) SS.out.out⟩)
                        have W6:=Hd y6;have FQ:=Hd fq;subst e7;clear ra ba kp ho hg hn' D SS R HO7 HB7 y6 fq;have y6:=W6.out;have fq:=FQ.out;refine anyB_sg [23,24] 1 ?_;go_wp2_with fail
                        refine sg_o ?_;refine anyB_on 25 fun K hK=>?_;go_simp;refine lateK hK ?_;clear hK K;refine anyB_dn ?_;clear y6 fq;generalize World.setCell _ _ _=xb at SF⊢;go_wp2_with fail
                        go_roundg x.bytes.size
                        case measure=>exact HLT.out
                        case rel=>exact⟨by first|rfl|trivial,SF⟩
                       ·go_simp;refine thK hK (boxed _ _) ?_;clear hK K;have D:=Hd (Blk.new v 117 #[.int .i64 sK,.string sk,.string sv,.bool (ev==0)]);have hbx:=boxed v (.cells #[.int .i64 sK,.string sk,.string sv,.bool (ev==0)] 117);have SS:=Hd (SS.out.keep hbx);have R:=Hd (R.out.below hbx);have Y:=Hd (keep_cell hbx Y.out);obtain⟨zd,hzd⟩: ∃z,v.heap.size=z:=⟨_,rfl⟩;rw[hzd]at D⊢;clear hbx hzd;generalize World.alloc _ _=v at D SS R Y⊢;refine anyB_tw 3 22 (fun K hK=>?_) fun K hK=>?_
                        ·have y:=Y.out;go_simp;refine thK hK bR ?_;clear hK K;clear y;refine anyB_on 22 fun K hK=>?_;have ho7:=R.out.wait cn HC6.out;rw[XX.out,←HXX.out]at ho7;simp only at ho7;rw[HNP.out,E1W.out]at ho7;have HO7:=Hd ho7;have HB7:=Hd R.out.leB;clear ho7;rw[if_pos (by rfl)]
                         refine wp_append_o _ _ _ _ rfl w.heap.size 117 i0 _ 4 48 underlying111 hi0 hz0 hz1 hz2 rfl (by decide) (.slice A1 np k1) np (askV x.pend) rfl HO7.out v.heap.size (some ⟨zd,0,none⟩) 1 1 [.int .i64 sK,.string sk,.string sv,.bool (ev==0)] rfl (reads_one D.out rfl) (by intro u hu;simp only[List.mem_cons,List.not_mem_nil,or_false]at hu;rcases hu with rfl|rfl|rfl|rfl<;>rfl) (le_maxLen (by have:=HLP.out;omega)) (by have:=HLP.out;omega) HB7.out ?_
                         intro v' xa ho hg hn';refine lateK hK ?_;clear hK K;obtain⟨A7,k7,e7,_⟩:=ho.form;have Y:=Hd (show xa.cell? ⟨p,4,none⟩=some (.slice (some ⟨ga,0,none⟩) 6 6)from Blk.cell_ (((R.out.wait cn HC6.out).grow' (by rw[E1W.out];exact hg) (by decide)) p _ (0,0) R.out.blk) 4 _ rfl)
                         obtain⟨ra,ba,y6,fq,kp⟩:=R.out.appWait HXXL.out HC6.out (v:=v') (l:=x.pend++[askedOf by0]) (by rw[List.length_append,askV_app,HBD.out,HNP.out];exact ho) (by rw[E1W.out];exact hg) (by rw[E1W.out];exact hn')
                         rw[E1W.out]at y6;rw[XX.out,set_c,←HXX.out]at ra;simp only at ra;have SF:=Hd (HF2.out _ ⟨⟨_,_,ra⟩,SS.out.bel.trans ba,kp _ (by decide) (by decide) _ _ (0,0) SS.out.out⟩)
                         have W6:=Hd y6;have FQ:=Hd fq;subst e7;clear ra ba kp ho hg hn' D SS R HO7 HB7 y6 fq;have y6:=W6.out;have fq:=FQ.out;refine anyB_sg [23,24] 1 ?_;go_wp2_with fail
                         refine sg_o ?_;refine anyB_on 25 fun K hK=>?_;go_simp;refine lateK hK ?_;clear hK K;refine anyB_dn ?_;clear y6 fq;generalize World.setCell _ _ _=xb at SF⊢;go_wp2_with fail
                         go_roundg x.bytes.size
                         case measure=>exact HLT.out
                         case rel=>exact⟨by first|rfl|trivial,SF⟩
                        ·have ho7:=R.out.wait cn HC6.out;rw[XX.out,←HXX.out]at ho7;simp only at ho7;rw[HNP.out,E1W.out]at ho7;have HO7:=Hd ho7;have HB7:=Hd R.out.leB;clear ho7;rw[if_pos (by rfl)]
                         refine wp_append_o _ _ _ _ rfl w.heap.size 117 i0 _ 4 48 underlying111 hi0 hz0 hz1 hz2 rfl (by decide) (.slice A1 np k1) np (askV x.pend) rfl HO7.out v.heap.size (some ⟨zd,0,none⟩) 1 1 [.int .i64 sK,.string sk,.string sv,.bool (ev==0)] rfl (reads_one D.out rfl) (by intro u hu;simp only[List.mem_cons,List.not_mem_nil,or_false]at hu;rcases hu with rfl|rfl|rfl|rfl<;>rfl) (le_maxLen (by have:=HLP.out;omega)) (by have:=HLP.out;omega) HB7.out ?_
                         intro v' xa ho hg hn';refine lateK hK ?_;clear hK K;obtain⟨A7,k7,e7,_⟩:=ho.form;have Y:=Hd (show xa.cell? ⟨p,4,none⟩=some (.slice (some ⟨ga,0,none⟩) 6 6)from Blk.cell_ (((R.out.wait cn HC6.out).grow' (by rw[E1W.out];exact hg) (by decide)) p _ (0,0) R.out.blk) 4 _ rfl)
                         obtain⟨ra,ba,y6,fq,kp⟩:=R.out.appWait HXXL.out HC6.out (v:=v') (l:=x.pend++[askedOf by0]) (by rw[List.length_append,askV_app,HBD.out,HNP.out];exact ho) (by rw[E1W.out];exact hg) (by rw[E1W.out];exact hn')
                         rw[E1W.out]at y6;rw[XX.out,set_c,←HXX.out]at ra;simp only at ra;have SF:=Hd (HF2.out _ ⟨⟨_,_,ra⟩,SS.out.bel.trans ba,kp _ (by decide) (by decide) _ _ (0,0) SS.out.out⟩)
                         have W6:=Hd y6;have FQ:=Hd fq;subst e7;clear ra ba kp ho hg hn' D SS R HO7 HB7 y6 fq;refine anyB_on 3 fun K hK=>?_;have y:=Y.out;go_simp;refine thK hK bR ?_;clear hK K;clear y;have y6:=W6.out;have fq:=FQ.out;refine anyB_sg [23,24] 1 ?_;go_wp2_with fail
                         refine sg_o ?_;refine anyB_on 25 fun K hK=>?_;go_simp;refine lateK hK ?_;clear hK K;refine anyB_dn ?_;clear y6 fq;generalize World.setCell _ _ _=xb at SF⊢;go_wp2_with fail
                         go_roundg x.bytes.size
                         case measure=>exact HLT.out
                         case rel=>exact⟨by first|rfl|trivial,SF⟩
                      ·have HBD:=Hd (show askV [askedOf by0]=[.int .i64 sK,.string sk,.string sv,.bool false]by
                        have h2:(askedOf by0).2=true:=by
                         unfold askedOf;simp only;rw[HKV.out];have:¬ kv=81:=fun e=>h81 (by rw[←HKN.out,e];rfl)
                         simp[this]
                        show [Value.int .i64 (askedOf by0).1.k,.string (askedOf by0).1.key,.string (askedOf by0).1.val,.bool (!(askedOf by0).2)]=_;rw[h2,HA1.out];rfl)
                       have n3:¬ ((kn:Int)=81):=by omega
                       have n4:((kn:Int)==81)=false:=by simpa using n3
                       refine region_sg [22,25] ?_;refine anyB_sg [0,1,2,4,5,6,7,8,9,10,11,12,13,14,15,16,17,18,19,20] 6 ?_;go_wp2_with fail
                       refine sg_o ?_;clear y4 y1 f0 f1 f2;have SS:=SS0;have R:=R0;clear SS0 R0;generalize World.drew _=v at SS R⊢;have Y:=Hd (show v.cell? ⟨p,4,none⟩=some (.slice (some ⟨ga,0,none⟩) 6 6)from R.out.blk.cell_ 4 _ rfl);refine anyB_tw 3 21 (fun K hK=>?_) fun K hK=>?_
                       ·have y:=Y.out;go_simp;refine thK hK bR ?_;clear hK K;clear y;refine anyB_on 21 fun K hK=>?_;go_simp;refine thK hK (boxed _ _) ?_;clear hK K;have D:=Hd (Blk.new v 117 #[.int .i64 sK,.string sk,.string sv,.bool false]);have hbx:=boxed v (.cells #[.int .i64 sK,.string sk,.string sv,.bool false] 117);have SS:=Hd (SS.out.keep hbx);have R:=Hd (R.out.below hbx);have Y:=Hd (keep_cell hbx Y.out);obtain⟨zd,hzd⟩: ∃z,v.heap.size=z:=⟨_,rfl⟩;rw[hzd]at D⊢;clear hbx hzd;generalize World.alloc _ _=v at D SS R Y⊢;refine anyB_on 22 fun K hK=>?_;have ho7:=R.out.wait cn HC6.out;rw[XX.out,←HXX.out]at ho7;simp only at ho7;rw[HNP.out,E1W.out]at ho7;have HO7:=Hd ho7;have HB7:=Hd R.out.leB;clear ho7;rw[if_pos (by rfl)]
                        refine wp_append_o _ _ _ _ rfl w.heap.size 117 i0 _ 4 48 underlying111 hi0 hz0 hz1 hz2 rfl (by decide) (.slice A1 np k1) np (askV x.pend) rfl HO7.out v.heap.size (some ⟨zd,0,none⟩) 1 1 [.int .i64 sK,.string sk,.string sv,.bool false] rfl (reads_one D.out rfl) (by intro u hu;simp only[List.mem_cons,List.not_mem_nil,or_false]at hu;rcases hu with rfl|rfl|rfl|rfl<;>rfl) (le_maxLen (by have:=HLP.out;omega)) (by have:=HLP.out;omega) HB7.out ?_
                        intro v' xa ho hg hn';refine lateK hK ?_;clear hK K;obtain⟨A7,k7,e7,_⟩:=ho.form;have Y:=Hd (show xa.cell? ⟨p,4,none⟩=some (.slice (some ⟨ga,0,none⟩) 6 6)from Blk.cell_ (((R.out.wait cn HC6.out).grow' (by rw[E1W.out];exact hg) (by decide)) p _ (0,0) R.out.blk) 4 _ rfl)
                        obtain⟨ra,ba,y6,fq,kp⟩:=R.out.appWait HXXL.out HC6.out (v:=v') (l:=x.pend++[askedOf by0]) (by rw[List.length_append,askV_app,HBD.out,HNP.out];exact ho) (by rw[E1W.out];exact hg) (by rw[E1W.out];exact hn')
                        rw[E1W.out]at y6;rw[XX.out,set_c,←HXX.out]at ra;simp only at ra;have SF:=Hd (HF2.out _ ⟨⟨_,_,ra⟩,SS.out.bel.trans ba,kp _ (by decide) (by decide) _ _ (0,0) SS.out.out⟩)
                        have W6:=Hd y6;have FQ:=Hd fq;subst e7;clear ra ba kp ho hg hn' D SS R HO7 HB7 y6 fq;have y6:=W6.out;have fq:=FQ.out;refine anyB_sg [23,24] 1 ?_;go_wp2_with fail
                        refine sg_o ?_;refine anyB_on 25 fun K hK=>?_;go_simp;refine lateK hK ?_;clear hK K;refine anyB_dn ?_;clear y6 fq;generalize World.setCell _ _ _=xb at SF⊢;go_wp2_with fail
                        go_roundg x.bytes.size
                        case measure=>exact HLT.out
                        case rel=>exact⟨by first|rfl|trivial,SF⟩
                       ·go_simp;refine thK hK (boxed _ _) ?_;clear hK K;have D:=Hd (Blk.new v 117 #[.int .i64 sK,.string sk,.string sv,.bool false]);have hbx:=boxed v (.cells #[.int .i64 sK,.string sk,.string sv,.bool false] 117);have SS:=Hd (SS.out.keep hbx);have R:=Hd (R.out.below hbx);have Y:=Hd (keep_cell hbx Y.out);obtain⟨zd,hzd⟩: ∃z,v.heap.size=z:=⟨_,rfl⟩;rw[hzd]at D⊢;clear hbx hzd;generalize World.alloc _ _=v at D SS R Y⊢;refine anyB_tw 3 22 (fun K hK=>?_) fun K hK=>?_
                        ·have y:=Y.out;go_simp;refine thK hK bR ?_;clear hK K;clear y;refine anyB_on 22 fun K hK=>?_;have ho7:=R.out.wait cn HC6.out;rw[XX.out,←HXX.out]at ho7;simp only at ho7;rw[HNP.out,E1W.out]at ho7;have HO7:=Hd ho7;have HB7:=Hd R.out.leB;clear ho7;rw[if_pos (by rfl)]
                         refine wp_append_o _ _ _ _ rfl w.heap.size 117 i0 _ 4 48 underlying111 hi0 hz0 hz1 hz2 rfl (by decide) (.slice A1 np k1) np (askV x.pend) rfl HO7.out v.heap.size (some ⟨zd,0,none⟩) 1 1 [.int .i64 sK,.string sk,.string sv,.bool false] rfl (reads_one D.out rfl) (by intro u hu;simp only[List.mem_cons,List.not_mem_nil,or_false]at hu;rcases hu with rfl|rfl|rfl|rfl<;>rfl) (le_maxLen (by have:=HLP.out;omega)) (by have:=HLP.out;omega) HB7.out ?_
                         intro v' xa ho hg hn';refine lateK hK ?_;clear hK K;obtain⟨A7,k7,e7,_⟩:=ho.form;have Y:=Hd (show xa.cell? ⟨p,4,none⟩=some (.slice (some ⟨ga,0,none⟩) 6 6)from Blk.cell_ (((R.out.wait cn HC6.out).grow' (by rw[E1W.out];exact hg) (by decide)) p _ (0,0) R.out.blk) 4 _ rfl)
                         obtain⟨ra,ba,y6,fq,kp⟩:=R.out.appWait HXXL.out HC6.out (v:=v') (l:=x.pend++[askedOf by0]) (by rw[List.length_append,askV_app,HBD.out,HNP.out];exact ho) (by rw[E1W.out];exact hg) (by rw[E1W.out];exact hn')
                         rw[E1W.out]at y6;rw[XX.out,set_c,←HXX.out]at ra;simp only at ra;have SF:=Hd (HF2.out _ ⟨⟨_,_,ra⟩,SS.out.bel.trans ba,kp _ (by decide) (by decide) _ _ (0,0) SS.out.out⟩)
                         have W6:=Hd y6;have FQ:=Hd fq;subst e7;clear ra ba kp ho hg hn' D SS R HO7 HB7 y6 fq;have y6:=W6.out;have fq:=FQ.out;refine anyB_sg [23,24] 1 ?_;go_wp2_with fail
                         refine sg_o ?_;refine anyB_on 25 fun K hK=>?_;go_simp;refine lateK hK ?_;clear hK K;refine anyB_dn ?_;clear y6 fq;generalize World.setCell _ _ _=xb at SF⊢;go_wp2_with fail
                         go_roundg x.bytes.size
                         case measure=>exact HLT.out
                         case rel=>exact⟨by first|rfl|trivial,SF⟩
                        ·have ho7:=R.out.wait cn HC6.out;rw[XX.out,←HXX.out]at ho7;simp only at ho7;rw[HNP.out,E1W.out]at ho7;have HO7:=Hd ho7;have HB7:=Hd R.out.leB;clear ho7;rw[if_pos (by rfl)]
                         refine wp_append_o _ _ _ _ rfl w.heap.size 117 i0 _ 4 48 underlying111 hi0 hz0 hz1 hz2 rfl (by decide) (.slice A1 np k1) np (askV x.pend) rfl HO7.out v.heap.size (some ⟨zd,0,none⟩) 1 1 [.int .i64 sK,.string sk,.string sv,.bool false] rfl (reads_one D.out rfl) (by intro u hu;simp only[List.mem_cons,List.not_mem_nil,or_false]at hu;rcases hu with rfl|rfl|rfl|rfl<;>rfl) (le_maxLen (by have:=HLP.out;omega)) (by have:=HLP.out;omega) HB7.out ?_
                         intro v' xa ho hg hn';refine lateK hK ?_;clear hK K;obtain⟨A7,k7,e7,_⟩:=ho.form;have Y:=Hd (show xa.cell? ⟨p,4,none⟩=some (.slice (some ⟨ga,0,none⟩) 6 6)from Blk.cell_ (((R.out.wait cn HC6.out).grow' (by rw[E1W.out];exact hg) (by decide)) p _ (0,0) R.out.blk) 4 _ rfl)
                         obtain⟨ra,ba,y6,fq,kp⟩:=R.out.appWait HXXL.out HC6.out (v:=v') (l:=x.pend++[askedOf by0]) (by rw[List.length_append,askV_app,HBD.out,HNP.out];exact ho) (by rw[E1W.out];exact hg) (by rw[E1W.out];exact hn')
                         rw[E1W.out]at y6;rw[XX.out,set_c,←HXX.out]at ra;simp only at ra;have SF:=Hd (HF2.out _ ⟨⟨_,_,ra⟩,SS.out.bel.trans ba,kp _ (by decide) (by decide) _ _ (0,0) SS.out.out⟩)
                         have W6:=Hd y6;have FQ:=Hd fq;subst e7;clear ra ba kp ho hg hn' D SS R HO7 HB7 y6 fq;refine anyB_on 3 fun K hK=>?_;have y:=Y.out;go_simp;refine thK hK bR ?_;clear hK K;clear y;have y6:=W6.out;have fq:=FQ.out;refine anyB_sg [23,24] 1 ?_;go_wp2_with fail
                         refine sg_o ?_;refine anyB_on 25 fun K hK=>?_;go_simp;refine lateK hK ?_;clear hK K;refine anyB_dn ?_;clear y6 fq;generalize World.setCell _ _ _=xb at SF⊢;go_wp2_with fail
                         go_roundg x.bytes.size
                         case measure=>exact HLT.out
                         case rel=>exact⟨by first|rfl|trivial,SF⟩
                    ·rw[if_neg hw];have hpo:pourC (f3.c cn) adt=(x,false):=by rw[HPX.out,←HFE.out,feedC,HB0.out,dif_neg hw]
                     have hok:=HPO.out;simp only[hpo]at hok;have HK1:=Hd hok;have HE:=Hd (show actM houseB (f3,h3) ⟨1,(cn:Int),adt⟩=pumpM houseB (f3.set cn x,h3)by
                      rw[HAM.out];unfold deliverM;simp only[hpo];rfl)
                     have SF:=Hd (SS1.out.keep b3);clear hpo hok b3;go_wp2_with fail
                     go_meet;exact .inr ⟨by first|rfl|trivial,Hd ⟨_,SF.out,HK1.out,HE.out⟩⟩
                 case rest=>
                  as_aux_lemma=>
                   rcases hcut with⟨rfl,HG⟩|⟨rfl,HG⟩
                   ·obtain⟨⟨f4,h4⟩,s4,k4,e4⟩:=HG.out;have SS4:=Hd s4;obtain⟨⟨V4,cs4,r4⟩,-,-⟩:=SS4.out;have R4:=Hd r4;have K4:=Hd k4;have EE4:=Hd e4;clear r4 s4 k4 e4 HG;simp only at R4 SS4;go_wp2_with fail
                    refine(leave_any _ w.heap.size p ga gs 6 V4 cs4 f4 h4 (m*1000+adt.size) R4.out K4.out cn HC6.out).mono ?_;rintro e w5 ⟨rfl,r5,t5⟩;have SS5:=Hd (SS4.out.did r5 t5);have K5:=Hd (K4.out.close HC6.out);obtain⟨⟨f5,h5⟩,hz5⟩: ∃z,closeM houseB (f4,h4) cn=z:=⟨_,rfl⟩;rw[hz5]at SS5 K5 EE4;clear r5 t5 hz5;obtain⟨⟨V5,cs5,r5⟩,-,-⟩:=SS5.out;have R5:=Hd r5;clear r5;simp only at R5 SS5;go_wp2_with fail
                    refine(on_any _ w.heap.size p ga gs 6 V5 cs5 f5 h5 (m*1000+adt.size) R5.out (SS5.out.tab HT.out) K5.out HN3.out).mono ?_;rintro e w6 ⟨rfl,r6,t6⟩;have SF:=Hd (FIN.out w6 _ EE4.out (SS5.out.did r6 t6));clear r6 t6;go_wp2_with fail
                    go_roundw
                    case rel=>exact⟨m+1,by omega,by go_num,SF⟩
                    case measure=>simp[intOf];omega
                   ·obtain⟨⟨f5,h5⟩,s5,k5,e5⟩:=HG.out;have SS5:=Hd s5;obtain⟨⟨V5,cs5,r5⟩,-,-⟩:=SS5.out;have R5:=Hd r5;have K5:=Hd k5;have EE5:=Hd e5;clear r5 s5 k5 e5 HG;simp only at R5 SS5;go_wp2_with fail
                    refine(on_any _ w.heap.size p ga gs 6 V5 cs5 f5 h5 (m*1000+adt.size) R5.out (SS5.out.tab HT.out) K5.out HN3.out).mono ?_;rintro e w6 ⟨rfl,r6,t6⟩;have SF:=Hd (FIN.out w6 _ EE5.out (SS5.out.did r6 t6));clear r6 t6;go_wp2_with fail
                    go_roundw
                    case rel=>exact⟨m+1,by omega,by go_num,SF⟩
                    case measure=>simp[intOf];omega
                ·have HAM:=Hd (show actM houseB (f3,h3) ⟨2,(cn:Int),adt⟩=pumpM houseB (closeM houseB (f3,h3) cn)by unfold actM;rw[if_pos rfl];rfl)
                 obtain⟨⟨V4,cs4,r4⟩,-,-⟩:=HS3.out;have R4:=Hd r4;clear r4;go_wp2_with fail
                 refine wp_loop_once ?_;go_wp2_with fail
                 refine(leave_any _ w.heap.size p ga gs 6 V4 cs4 f3 h3 (m*1000) R4.out HK3.out cn HC6.out).mono ?_;rintro e w5 ⟨rfl,r5,t5⟩;have SS5:=Hd (HS3.out.did r5 t5);have K5:=Hd (HK3.out.close HC6.out);obtain⟨⟨f5,h5⟩,hz5⟩: ∃z,closeM houseB (f3,h3) cn=z:=⟨_,rfl⟩;rw[hz5]at SS5 K5 HAM;clear r5 t5 hz5;obtain⟨⟨V5,cs5,r5⟩,-,-⟩:=SS5.out;have R5:=Hd r5;clear r5;simp only at R5 SS5;go_wp2_with fail
                 refine(on_any _ w.heap.size p ga gs 6 V5 cs5 f5 h5 (m*1000) R5.out (SS5.out.tab HT.out) K5.out (by have:=HN3.out;omega)).mono ?_
                 rintro e w6 ⟨rfl,r6,t6⟩;have SF:=Hd (FIN.out w6 _ HAM.out (SS5.out.did r6 t6));clear r6 t6;go_wp2_with fail
                 go_roundw
                 case rel=>exact⟨m+1,by omega,by go_num,SF⟩
                 case measure=>simp[intOf];omega
               ·have g1:(L:Int)≤(m:Int):=by omega
                have HF:=Hd (show ScrS w wr p ga gs (runM houseB (startF md n,startH) l).1 (runM houseB (startF md n,startH) l).2 by
                 have:=HS.out;rw[List.take_of_length_le (by rw[HL.out];omega)]at this
                 exact this)
                go_wp2_with fail
                go_meet;exact HF
            case rest=>
             as_aux_lemma=>
              obtain⟨w9,rfl⟩: ∃u,u=wc:=⟨_,rfl⟩;have HSF:=hcut;obtain⟨⟨F,W⟩,hz⟩: ∃z,runM houseB (startF md n,startH) l=z:=⟨_,rfl⟩;rw[hz]at HSF;have HZ:=Hd hz;obtain⟨⟨V9,cs9,r9⟩,bel9,out9⟩:=HSF.out;simp only at r9;have R9:=Hd r9;have BEL9:=Hd bel9;have OUT9:=Hd out9;obtain⟨Ad,kd,ed,_⟩:=r9.deeds.form;obtain⟨Aw,kw,ew⟩:=r9.rows.form;have y7:w9.cell? ⟨p,7,none⟩=some V9.deeds:=r9.blk.cell_ 7 _ rfl;have y2:w9.cell? ⟨p,2,none⟩=some V9.rows:=r9.blk.cell_ 2 _ rfl;rw[ed]at y7;rw[ew]at y2;have HPL:=Hd (fun(u:World) (hb:Below w9.heap.size w9 u)=>show PL u u.heap.size (.slice Aw W.rows.length kw) W.rows by rw[←ew];exact(r9.rows.keeps (.of_below hb)).pl)
              obtain⟨nd,hnd⟩: ∃n,F.deeds.length=n:=⟨_,rfl⟩;obtain⟨nw,hnw⟩: ∃n,W.rows.length=n:=⟨_,rfl⟩;rw[hnd]at ed y7;rw[hnw]at ew y2 HPL;have ED:=Hd ed;clear hcut HSF hz r9 bel9 out9 ed ew hnd hnw S0;go_upto_region 44 with fail
              go_cut [19] (fun p19 wx=>∃z19 vr,p19= .pointer (some ⟨z19,0,none⟩)∧OutL w9 wx z19 0 (.slice none 0 0) (.slice Ad nd kd) vr F W.rows)
              case first=>
               rename_i K0 a0 J0 K1 j0 j1;clear a0;as_aux_lemma=>
                refine region_sg [12] ?_;refine anyB_sg [0,1,2,3,4,5,6,7,8] 4 ?_;go_wp2_with fail
                refine sg_o ?_;have S0:=Hd ((RunC.start w9.heap.size w9 W.rows).keep bR.drew);clear y7 y2;generalize w9.drew=x0 at S0⊢;refine anyB_tw 9 11 (fun K hK=>?_) fun K hK=>?_
                ·go_simp;refine(refpairs_any x0 (.slice Aw nw kw) W.rows (HPL.out _ S0.out.hb)).mono ?_;rintro e x1 ⟨vr,rfl,o,hb⟩;refine thK hK hb ?_;clear hK K;have S1:=Hd (S0.out.fv hb (o.base S0.out.hb.size));obtain⟨Ar,kr,er⟩:=o.form;subst er;clear o hb S0;refine anyB_sg [10] 2 ?_;go_wp2_with fail
                 refine sg_o ?_;refine anyB_on 11 fun K hK=>?_;go_simp;refine thK hK (boxed _ _) ?_;clear hK K;have S2:=Hd S1.out.fz;obtain⟨z19,hz⟩: ∃z,x1.heap.size=z:=⟨_,rfl⟩;rw[hz]at S2⊢;generalize World.alloc _ _=x2 at S2⊢;clear S1 hz;obtain⟨bz,-⟩:=S2.out.bz _ rfl;have f0:=bz.cell_ 0 _ rfl;have f1:=bz.cell_ 1 _ rfl;have f2:=bz.cell_ 2 _ rfl;have ff:=bz.frozen;clear bz;refine anyB_on 12 fun K hK=>?_;go_simp;refine lateK hK ?_;clear hK K;refine anyB_dn ?_;have FN:=Hd (S2.out.done (F:=F) (vd:=.slice Ad nd kd) rfl);clear f0 f1 f2 ff S2;generalize World.setCell _ _ _=x9 at FN⊢;go_wp2_with fail
                 go_meet;exact⟨z19,_,rfl,FN.out⟩
                ·go_simp;refine thK hK (boxed _ _) ?_;clear hK K;have S1:=Hd S0.out.fz;obtain⟨z19,hz⟩: ∃z,x0.heap.size=z:=⟨_,rfl⟩;rw[hz]at S1⊢;generalize World.alloc _ _=x1 at S1⊢;clear S0 hz;refine anyB_on 9 fun K hK=>?_;go_simp;refine(refpairs_any x1 (.slice Aw nw kw) W.rows (HPL.out _ S1.out.hb)).mono ?_;rintro e x2 ⟨vr,rfl,o,hb⟩;refine thK hK hb ?_;clear hK K;have S2:=Hd (S1.out.fv hb (o.base S1.out.hb.size));obtain⟨Ar,kr,er⟩:=o.form;subst er;clear o hb S1;refine anyB_sg [10] 1 ?_;go_wp2_with fail
                 refine sg_o ?_;obtain⟨bz,-⟩:=S2.out.bz _ rfl;have f0:=bz.cell_ 0 _ rfl;have f1:=bz.cell_ 1 _ rfl;have f2:=bz.cell_ 2 _ rfl;have ff:=bz.frozen;clear bz;refine anyB_on 12 fun K hK=>?_;go_simp;refine lateK hK ?_;clear hK K;refine anyB_dn ?_;have FN:=Hd (S2.out.done (F:=F) (vd:=.slice Ad nd kd) rfl);clear f0 f1 f2 ff S2;generalize World.setCell _ _ _=x9 at FN⊢;go_wp2_with fail
                 go_meet;exact⟨z19,_,rfl,FN.out⟩
              case rest=>
               as_aux_lemma=>
                obtain⟨z19,vr,rfl,e0⟩:=hcut;have EO:=Hd e0;clear e0 y7 y2;go_upto_block 10 with fail
                go_cut [] (fun wx=>∃vs,OutL w9 wx z19 6 vs (.slice Ad nd kd) vr F W.rows)
                case first=>
                 rename_i K0 a0 J0 K1 j0 j1;clear a0;as_aux_lemma=>
                  go_wp2_with fail
                  go_loopw [20] (fun i wx=>∃m:Nat,m≤6∧i= .int .i64 m∧Hid (∃vs,OutL w9 wx z19 m vs (.slice Ad nd kd) vr F W.rows)) (fun i _=>6-(intOf i).toNat)
                  case atStart=>exact⟨0,Nat.zero_le _,rfl,Hd ⟨_,EO.out⟩⟩
                  case round=>
                   obtain⟨m,hm6,rfl,HE⟩:=hrel;by_cases hlt:m<6
                   ·have g1:(m:Int)<6:=by omega
                    have g2:(0:Int)≤(m:Int):=by omega
                    obtain⟨vs,es⟩:=HE.out;obtain⟨As,ks,e5,_⟩:=es.sent.form;subst e5;have S1:=Hd (es.keep bR.drew);have R1:=R9.out.below es.bel;have z0:=es.blk.cell_ 0 _ rfl;have y4:wr.cell? ⟨p,4,none⟩=some (.slice (some ⟨ga,0,none⟩) 6 6):=R1.blk.cell_ 4 _ rfl;have x3:wr.cell? ⟨ga,m*4+3,none⟩=some (.string (F.c m).sent):=R1.all.cell hlt (by decide)
                    clear es HE R1;go_upto_region 48 with fail
                    refine region_sg [11,13] ?_;refine anyB_sg [0,1,2,3,4,5,6,7,8,9] 4 ?_;go_wp2_with fail
                    refine sg_o ?_;clear z0 y4 x3;generalize wr.drew=x0 at S1⊢;refine anyB_on 10 fun K hK=>?_;go_simp;refine thK hK (boxed _ _) ?_;clear hK K;have HD:=Hd (Blk.new x0 9 #[.string (F.c m).sent]);have S2:=Hd (S1.out.keep (boxed x0 (.cells #[.string (F.c m).sent] 9)));obtain⟨zs,hzs⟩: ∃z,x0.heap.size=z:=⟨_,rfl⟩;rw[hzs]at HD⊢;generalize World.alloc _ _=x1 at HD S2⊢;clear S1 hzs;obtain⟨i0,hi0,hz0,hz1,hz2⟩:=info_parts str_info;have HSO:=Hd S2.out.sent;have HBS:=Hd S2.out.bel.size;refine anyB_on 11 fun K hK=>?_;rw[if_pos (by rfl)]
                    refine wp_append_o _ _ _ _ rfl w9.heap.size 9 i0 _ 1 16 underlying25 hi0 hz0 hz1 hz2 rfl (by decide) (.slice As m ks) m _ rfl HSO.out x1.heap.size (some ⟨zs,0,none⟩) 1 1 [.string (F.c m).sent] rfl (reads_one HD.out rfl) (by intro u hu;simp only[List.mem_cons,List.not_mem_nil,or_false]at hu;subst hu;rfl) (le_maxLen (by omega)) (by omega) HBS.out ?_
                    intro v' x2 ho hg hn';refine lateK hK ?_;clear hK K;obtain⟨A7,k7,e7,_⟩:=ho.form;obtain⟨ad1,z0,fp⟩:=S2.out.add ho hg;subst e7;have S3:=Hd ad1;clear ad1 ho hg hn' hi0 hz0 hz1 hz2 HD HSO HBS S2;refine anyB_sg [12] 1 ?_;go_wp2_with fail
                    refine sg_o ?_;refine anyB_on 13 fun K hK=>?_;go_simp;refine lateK hK ?_;clear hK K;refine anyB_dn ?_;clear z0 fp;generalize World.setCell _ _ _=x9 at S3⊢;go_wp2_with fail
                    go_roundw
                    case rel=>exact⟨m+1,by omega,by go_num,Hd ⟨_,S3.out⟩⟩
                    case measure=>simp[intOf];omega
                   ·have g1:(6:Int)≤(m:Int):=by omega
                    obtain rfl:m=6:=by omega
                    have HF:=HE;clear HE;go_wp2_with fail
                    go_meet;exact HF.out
                case rest=>
                 as_aux_lemma=>
                  obtain⟨vs,es⟩:=hcut;have ES:=Hd es;obtain⟨As,ks,e5,_⟩:=es.sent.form;obtain⟨Ar,kr,er⟩:=es.rows.form;subst e5 er;obtain⟨nw2,hnw2⟩: ∃n,W.rows.length=n:=⟨_,rfl⟩;rw[hnw2]at ES;have b9:=es.blk;rw[hnw2]at b9;have HNW2:=Hd hnw2;clear hnw2 es;have u0:=b9.cell_ 0 _ rfl;have u1:=b9.cell_ 1 _ rfl;have u2:=b9.cell_ 2 _ rfl;have o9:Blk wc (w.heap.size+1) 29 #[.slice none 0 0,.slice none 0 0,.slice none 0 0]:=OUT9.out.keep ES.out.bel;have c0:=o9.cell_ 0 _ rfl;have c1:=o9.cell_ 1 _ rfl;have c2:=o9.cell_ 2 _ rfl;have fr:=o9.frozen;have HO9:=Hd o9;clear b9 o9;go_wp2_with fail
                  have B:=(((HO9.out.set_ 0 (.slice As 6 ks)).set_ 1 (.slice Ad nd kd)).set_ 2 (.slice Ar nw2 kr));have t0:=B.cell_ 0 _ rfl;have t1:=B.cell_ 1 _ rfl;have t2:=B.cell_ 2 _ rfl;have kp: ∀t,29≠t→Keeps t wc (((wc.setCell ⟨w.heap.size+1,0,none⟩ (.slice As 6 ks)).setCell ⟨w.heap.size+1,1,none⟩ (.slice Ad nd kd)).setCell ⟨w.heap.size+1,2,none⟩ (.slice Ar nw2 kr)):=fun t ht=>
                   ((Keeps.set_ (p:=⟨w.heap.size+1,0,none⟩) HO9.out ht _).trans (Keeps.set_ (p:=⟨w.heap.size+1,1,none⟩) (HO9.out.set_ 0 _) ht _)).trans (Keeps.set_ (p:=⟨w.heap.size+1,2,none⟩) ((HO9.out.set_ 0 _).set_ 1 _) ht _)
                  have belc:Below w.heap.size w wc:=below_step BEL9.out leR ES.out.bel;have h9:=BEL9.out.size;refine bodyPost_ret (v:=.tuple #[.agg #[.slice As 6 ks,.slice Ad nd kd,.slice Ar nw2 kr],.int .i64 0]) ?_ rfl ⟨.slice As 6 ks,.slice Ad nd kd,.slice Ar nw2 kr,?_,?_,(((belc.setCell (Nat.le_succ _) _).setCell (Nat.le_succ _) _).setCell (Nat.le_succ _) _)⟩
                  ·simp[results,results13,go_sem,t0,t1,t2]
                  ·rw[HSE.out]
                  ·have eo:outS md n l=⟨(List.range 6).map fun c=>(F.c c).sent,F.deeds,W.rows⟩:=by
                    unfold outS;rw[if_pos HSE.out,Int.toNat_natCast];unfold outH;rw[HZ.out]
                   rw[eo];have hd:=(R9.out.below ES.out.bel).deeds;rw[show V9.deeds= .slice Ad nd kd from ED.out]at hd;have hsn:=(ES.out.sent.ofK (kp _ (by decide))).low h9
                   have hrw:=(ES.out.rows.keeps (kp _ (by decide))).base h9
                   refine⟨?_,hd.ofK (kp _ (by decide)),hrw⟩
                   rw[List.length_map,List.length_range,List.map_map];exact hsn
       ·have e0:(SE !=0)=true:=by simpa using hz
        have HR:=Hd HC.out.1;have HNZ:=Hd hz;have c0:=HR.out.out.cell_ 0 _ rfl;have c1:=HR.out.out.cell_ 1 _ rfl;have c2:=HR.out.out.cell_ 2 _ rfl;have fr:=HR.out.out.frozen;clear HC hz;go_wp2_with fail
        have B:=(((HR.out.out.set_ 0 (.slice none 0 0)).set_ 1 (.slice none 0 0)).set_ 2 (.slice none 0 0));have t0:=B.cell_ 0 _ rfl;have t1:=B.cell_ 1 _ rfl;have t2:=B.cell_ 2 _ rfl;refine bodyPost_ret (v:=.tuple #[.agg #[.slice none 0 0,.slice none 0 0,.slice none 0 0],.int .i64 SE]) ?_ rfl ⟨.slice none 0 0,.slice none 0 0,.slice none 0 0,?_,?_,(((HR.out.bel.setCell (Nat.le_succ _) _).setCell (Nat.le_succ _) _).setCell (Nat.le_succ _) _)⟩
        ·simp[results,results13,go_sem,t0,t1,t2]
        ·rw[HSE.out]
        ·unfold outS;rw[if_neg (by rw[HSE.out];exact HNZ.out)]
         exact⟨OwnO.nil _ _ _ _,OwnO.nil _ _ _ _,OPL.nil_ _ _⟩
theorem scriptE_ok{md s:Int}{l:List Ac}(h:scriptE md s l=0):setupE md s=0∧l.length≤300∧∀a∈l,AcOk a:=by
 unfold scriptE at h;split at h
 ·rename_i h1;exact absurd h h1
 ·rename_i h1;split at h
  ·cases h
  ·exact⟨Decidable.not_not.1 h1,by omega,actsE_no h⟩
theorem out_eq{md:Int}{n:Nat}{l:List Ac}(hn:n≤8)(hl: ∀a∈l,AcOk a):outM md n l=outH md n l:=by
 have s:=run_sim md n hn l fun a ha=>by
  have h:=hl a ha;have h0:=h.c0;have h6:=h.c6;omega
 unfold outM outH;rw[s.front,s.rb.rows]
theorem setupE_srv{md s:Int}(h:setupE md s=0): ∃n:Nat,s=(n:Int)∧1≤n∧n≤4:=by
 unfold setupE at h;split at h
 ·cases h
 split at h
 ·cases h
 ·exact⟨s.toNat,by omega,by omega,by omega⟩
theorem outZ_r(w:World)(B:Nat):OutR w B (.slice none 0 0) (.slice none 0 0) (.slice none 0 0) ⟨[],[],[]⟩:=⟨OwnO.nil _ _ _ _,OwnO.nil _ _ _ _,OPL.nil_ _ _⟩
theorem runs_any(w:World)(md s:Int)(v:Value)(l:List Ac)(hl:AcL w w.heap.size v l)(hT:Tabs w):Calls Tryz.prog 12 #[.agg #[.int .i64 md,.int .i64 s],v] w (ScriptR w md s l):=by
 by_cases h0:scriptE md s l=0
 ·obtain⟨h1,h2,h3⟩:=scriptE_ok h0;obtain⟨n,rfl,hn1,hn4⟩:=setupE_srv h1;refine(run_any w md n v l h1 hn1 hn4 hl h2 h3 hT).mono ?_;rintro e w' ⟨vs,vd,vr,rfl,o,b⟩;refine⟨vs,vd,vr,by rw[h0],?_,b⟩
  unfold outS;rw[if_pos h0,Int.toNat_natCast,←out_eq (by omega) h3]
  exact o
 ·have ho:outS md s l=⟨[],[],[]⟩:=by unfold outS;rw[if_neg h0]
  have fin: ∀(E:Int) (e:Ending) (w':World),scriptE md s l=E→e= .returned (.tuple #[outZ,.int .i64 E])∧Below w.heap.size w w'→ScriptR w md s l e w':=fun E e w' hE ⟨h,b⟩=>
   ⟨.slice none 0 0,.slice none 0 0,.slice none 0 0,by rw[hE];exact h,by rw[ho];exact outZ_r _ _,b⟩
  by_cases h1:setupE md s=0
  ·by_cases h2:300<l.length
   ·obtain⟨A,cap,rfl,_⟩:=hl;exact(run_long md s A l.length cap w h1 h2).mono fun e w' h=>fin _ e w' (by unfold scriptE;rw[if_neg (fun hh=>hh h1),if_pos h2]) h
   ·have hE:scriptE md s l=actsE l:=by unfold scriptE;rw[if_neg (fun hh=>hh h1),if_neg h2]
    exact(run_bad w md s v l h1 hl (by omega) (by rw[←hE];exact h0)).mono fun e w' h=>fin _ e w' hE h
  ·exact(run_setup md s v w h1).mono fun e w' h=>fin _ e w' (by unfold scriptE;rw[if_pos h1]) h
end Go.Proofs.YtjbnfigpflambacGreatDoor
