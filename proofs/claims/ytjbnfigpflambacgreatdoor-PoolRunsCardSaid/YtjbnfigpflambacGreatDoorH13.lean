/- back.Check: 0 for a valid world, 5 for any other. Conditions: those of each lemma. -/
import Derived.Test.YtjbnfigpflambacGreatDoorH12
namespace Go.Proofs.YtjbnfigpflambacGreatDoor
set_option maxRecDepth 100000
set_option maxHeartbeats 16000000
open _root_.Go.Proofs.Tryz
open Go.ChangeShapes Go.WideShapes Go.ChangeAt Go.RowKit
def chkE(W:Wo):Int:=if goodW W=true then 0 else 5
theorem chk_rows{W:Wo}(h:pairsB 10 100 W.rows=false):chkE W=5:=by unfold chkE goodW;rw[h];rfl
theorem chk_many{W:Wo}(h:8<W.ses.length):chkE W=5:=by
 unfold chkE goodW;rw[show decide (W.ses.length≤8)=false by simp;omega,Bool.and_false]
 rfl
theorem chk_ses{W:Wo}{i:Nat}(hi:i<W.ses.length)(h:sesOk W.ses i=false):chkE W=5:=by
 unfold chkE;rw[if_neg];intro hg;unfold goodW at hg;simp only[Bool.and_eq_true,List.all_eq_true,List.mem_range]at hg;have:=hg.1.2 i hi;rw[h]at this;cases this
theorem chk_se{W:Wo}{i:Nat}(hi:i<W.ses.length)(h:seOk W.ses[i]=false):chkE W=5:=by
 refine chk_ses hi ?_;unfold sesOk;rw[getD_at hi,h,Bool.false_and]
theorem chk_held{W:Wo}{i:Nat}(hi:i<W.ses.length){p:Pr}(hp:p∈W.ses[i].wri)(h:heldB W.ses i p.k=true):chkE W=5:=by
 refine chk_ses hi ?_;unfold sesOk;rw[getD_at hi];have:(W.ses[i].wri.all fun p=>!heldB W.ses i p.k)=false:=by
  rw[List.all_eq_false];exact⟨p,hp,by rw[h];simp⟩
 rw[this,Bool.and_false]
def OkAt(ss:List Se)(j:Nat):Prop:=seOk (ss.getD j Se.new)=true∧∀p∈(ss.getD j Se.new).wri,SortedW ss→heldB ss j p.k=false
theorem okAll_sorted{ss:List Se}(h: ∀j,j<ss.length→OkAt ss j):SortedW ss:=by
 intro j;by_cases hj:j<ss.length
 ·have g:=(seOk_iff _).1 (h j hj).1;exact((pairs_iff _ _ _).1 g.wri).2.1
 ·have e:ss.getD j Se.new=Se.new:=by rw[List.getD_eq_getElem?_getD,List.getElem?_eq_none (by omega)];rfl
  rw[e];exact List.Pairwise.nil
theorem okAll_few{ss:List Se}(h: ∀j,j<ss.length→OkAt ss j): ∀t∈ss,t.wri.length≤1000:=by
 intro t ht;obtain⟨j,hj,rfl⟩:=List.getElem_of_mem ht;have g:=(seOk_iff _).1 (h j hj).1;rw[getD_at hj]at g;have:=((pairs_iff _ _ _).1 g.wri).2.2;omega
theorem chk_end{W:Wo}(h1:pairsB 10 100 W.rows=true)(h2:W.ses.length≤8)(h: ∀j,j<W.ses.length→OkAt W.ses j):chkE W=if card (keysW W)≤100 then 0 else 5:=by
 have hs:=okAll_sorted h;have ha:(List.range W.ses.length).all (sesOk W.ses)=true:=by
  rw[List.all_eq_true];intro j hj;have hj:=List.mem_range.1 hj;unfold sesOk;rw[(h j hj).1,Bool.true_and,List.all_eq_true];intro p hp;rw[(h j hj).2 p hp hs];rfl
 unfold chkE goodW;rw[h1,ha,show decide (W.ses.length≤8)=true by simpa using h2]
 simp
theorem se_st0{t:Se}(h:t.st<0):seOk t=false:=by
 cases e:seOk t with
 |false=>rfl
 |true=>have:=((seOk_iff t).1 e).st0;omega
theorem se_st2{t:Se}(h:2<t.st):seOk t=false:=by
 cases e:seOk t with
 |false=>rfl
 |true=>have:=((seOk_iff t).1 e).st2;omega
theorem se_p1{t:Se}(h:pairsB 9 6 t.set=false):seOk t=false:=by
 cases e:seOk t with
 |false=>rfl
 |true=>have:=((seOk_iff t).1 e).set;rw[h]at this;cases this
theorem se_p2{t:Se}(h:pairsB 11 6 t.pre=false):seOk t=false:=by
 cases e:seOk t with
 |false=>rfl
 |true=>have:=((seOk_iff t).1 e).pre;rw[h]at this;cases this
theorem se_p3{t:Se}(h:pairsB 9 6 t.sav=false):seOk t=false:=by
 cases e:seOk t with
 |false=>rfl
 |true=>have:=((seOk_iff t).1 e).sav;rw[h]at this;cases this
theorem se_p4{t:Se}(h:pairsB 10 100 t.wri=false):seOk t=false:=by
 cases e:seOk t with
 |false=>rfl
 |true=>have:=((seOk_iff t).1 e).wri;rw[h]at this;cases this
theorem se_idle{t:Se}(h:t.st=0)(hl:0<t.sav.length):seOk t=false:=by
 cases e:seOk t with
 |false=>rfl
 |true=>have:=((seOk_iff t).1 e).idle h;rw[this]at hl;simp at hl
theorem se_calm{t:Se}(h:t.st≠1)(hl:0<t.wri.length):seOk t=false:=by
 cases e:seOk t with
 |false=>rfl
 |true=>have:=((seOk_iff t).1 e).calm h;rw[this]at hl;simp at hl
theorem se_ok{t:Se}(h0:0≤t.st)(h2:t.st≤2)(p1:pairsB 9 6 t.set=true)(p2:pairsB 11 6 t.pre=true)(p3:pairsB 9 6 t.sav=true)(p4:pairsB 10 100 t.wri=true)(hi:t.st=0→t.sav.length=0)(hc:t.st≠1→t.wri.length=0):seOk t=true:=
 (seOk_iff t).2 ⟨h0,h2,p1,p2,p3,p4,fun h=>List.eq_nil_of_length_eq_zero (hi h),fun h=>List.eq_nil_of_length_eq_zero (hc h)⟩
structure ChkAt(w wx:World)(r s:Value):Prop where
 bel:Below w.heap.size w wx
 box:Blk wx w.heap.size 39 #[r,s]
 lt:w.heap.size<wx.heap.size
theorem ChkAt.start(w:World)(r s:Value):ChkAt w (w.alloc (.cells #[r,s] 39)) r s:=⟨boxed w _,Blk.new w _ _,by simp⟩
theorem ChkAt.keep{w wx wy:World}{r s:Value}(h:ChkAt w wx r s)(hb:Below wx.heap.size wx wy):ChkAt w wy r s:=
 ⟨below_step h.bel leR hb,h.box.keep hb,Nat.lt_of_lt_of_le h.lt hb.size⟩
structure SesAt(w wx:World)(r s:Value)(b:Nat)(cs:Array Value):Prop where
 base:ChkAt w wx r s
 blk:Blk wx b 133 cs
theorem SesAt.keep{w wx wy:World}{r s:Value}{b:Nat}{cs:Array Value}(h:SesAt w wx r s b cs)(hb:Below wx.heap.size wx wy):SesAt w wy r s b cs:=⟨h.base.keep hb,h.blk.keep hb⟩
theorem PL.now{w wx:World}{v:Value}{l:List Pr}(h:PL w w.heap.size v l)(hb:Below w.heap.size w wx):PL wx wx.heap.size v l:=(h.below hb).more hb.size
theorem check_world(w:World)(r s:Value)(W:Wo)(hT:Tabs w)(h:WL w w.heap.size r s W):
  Calls Tryz.prog 62 #[.agg #[r,s]] w fun e w'=>e= .returned (.int .i64 (chkE W))∧Below w.heap.size w w':=by
 obtain⟨E,hE⟩: ∃E,chkE W=E:=⟨_,rfl⟩;rw[hE];have XE:=Hd hE;clear hE;obtain⟨A,c,er⟩:=h.rows.form;have hrows:=h.rows;obtain⟨A',c',es,hc',hn',hss⟩:=h.ses;subst er es;have C0:=Hd (ChkAt.start w (.slice A W.rows.length c) (.slice A' W.ses.length c'));have HT:=Hd hT;have HR:=Hd hrows;have HS:=Hd hss;have HW:=Hd h;clear hT hrows hss h hc';obtain⟨n,hN⟩: ∃n,W.ses.length=n:=⟨_,rfl⟩;rw[hN]at C0 hn' HW⊢;have HN:=Hd hN;clear hN;cases hb1:pairsB 10 100 W.rows with
 |false=>
  have hE:E=5:=by rw[←XE.out];exact chk_rows hb1
  have HE:=Hd hE;have hcall:=fun w (hT:Tabs w) h=>pairs_any w (.slice A W.rows.length c) W.rows 100 10 hT h (by decide)
  rw[hb1]at hcall;have HC:=Hd hcall;clear hE hcall hb1;go_enter func62,ntmps62
  go_wp2_with fail
  refine(HC.out _ (HT.out.below (boxed _ _)) ((HR.out.below (boxed _ _)).more (by simp))).mono ?_
  rintro e w1 ⟨rfl,b1⟩;have HB:=Hd (C0.out.keep b1).bel;clear b1;go_wp2_with fail
  go_ret;exact⟨by rw[HE.out];rfl,HB.out⟩
 |true=>
  have hcall:=fun w (hT:Tabs w) h=>pairs_any w (.slice A W.rows.length c) W.rows 100 10 hT h (by decide)
  rw[hb1]at hcall;have HC:=Hd hcall;have HP:=Hd hb1;clear hcall hb1;by_cases hn8:8<n
  ·have hE:E=5:=by rw[←XE.out];exact chk_many (by rw[HN.out];exact hn8)
   have HE:=Hd hE;clear hE;go_enter func62,ntmps62
   go_wp2_with fail
   refine(HC.out _ (HT.out.below (boxed _ _)) ((HR.out.below (boxed _ _)).more (by simp))).mono ?_
   rintro e w1 ⟨rfl,b1⟩;have hC1:=C0.out.keep b1;have y0:=hC1.box.cell_ 0 _ rfl;have y1:=hC1.box.cell_ 1 _ rfl;have HB:=Hd hC1.bel;have g1:(8:Int)<(n:Int):=by omega
   clear b1 hC1;go_wp2_with fail
   go_ret;exact⟨by rw[HE.out];rfl,HB.out⟩
  have g0:(n:Int)≤8:=by omega
  go_enter func62,ntmps62
  go_wp2_with fail
  refine(HC.out _ (HT.out.below (boxed _ _)) ((HR.out.below (boxed _ _)).more (by simp))).mono ?_
  rintro e w1 ⟨rfl,b1⟩;have hC1:=C0.out.keep b1;have y0:=hC1.box.cell_ 0 _ rfl;have y1:=hC1.box.cell_ 1 _ rfl;have C1:=Hd hC1;clear b1 hC1;go_wp2_with fail
  go_loopw [20] (fun i wx=>∃k:Nat,k≤n∧i= .int .i64 k∧Hid (∀j,j<k→OkAt W.ses j)∧ChkAt w wx (.slice A W.rows.length c) (.slice A' n c')) (fun i _=>n-(intOf i).toNat)
  case atStart=>exact⟨0,Nat.zero_le _,rfl,Hd (fun j hj=>absurd hj (Nat.not_lt_zero _)),C1.out⟩
  case round=>
   obtain⟨k,hk,rfl,HG,hC⟩:=hrel;clear y0 y1;by_cases hlt:k<n
   ·have hkl:k<W.ses.length:=by rw[HN.out];exact hlt
    obtain⟨ad,hA,hBl,hse⟩:=HS.out (by omega)
    subst hA;have q:=hse k hkl;obtain⟨t,ht⟩: ∃t,W.ses[k]=t:=⟨_,rfl⟩;rw[ht]at q;obtain⟨x0,⟨v1,x1,p1⟩,⟨v2,x2,p2⟩,⟨v3,x3,p3⟩,⟨v4,x4,p4⟩,i1,i2⟩:=q;obtain⟨A1,z1,rfl⟩:=p1.form;obtain⟨A2,z2,rfl⟩:=p2.form;obtain⟨A3,z3,rfl⟩:=p3.form;obtain⟨A4,z4,rfl⟩:=p4.form;obtain⟨n3,hn3⟩: ∃n3,t.sav.length=n3:=⟨_,rfl⟩;obtain⟨n4,hn4⟩: ∃n4,t.wri.length=n4:=⟨_,rfl⟩;rw[hn3]at x3 p3;rw[hn4]at x4 p4;have HN3:=Hd hn3;have HN4:=Hd hn4;clear hn3 hn4;have hbl2:(ad.add (k*5)).block<w.heap.size:=by rw[block_of_add];exact hBl
    replace x0:=(hC.bel.cell hbl2).trans x0
    replace x1:=(hC.bel.cell (by exact hbl2)).trans x1
    replace x2:=(hC.bel.cell (by exact hbl2)).trans x2
    replace x3:=(hC.bel.cell (by exact hbl2)).trans x3
    replace x4:=(hC.bel.cell (by exact hbl2)).trans x4
    have l3:(ad.add (k*5)).block<wr.heap.size:=World.block_lt_of_cell? wr _ x0;have g1:(k:Int)<(n:Int):=by omega
    have g2:(0:Int)≤(k:Int):=by omega
    have Q1:=Hd p1;have Q2:=Hd p2;have Q3:=Hd p3;have Q4:=Hd p4;have HTT:=Hd ht;have D0:=Hd (SesAt.mk (hC.keep (boxed wr (.cells #[.int .i64 t.st,.slice A1 t.set.length z1,.slice A2 t.pre.length z2,.slice A3 n3 z3,.slice A4 n4 z4] 133))) (Blk.new wr 133 #[.int .i64 t.st,.slice A1 t.set.length z1,.slice A2 t.pre.length z2,.slice A3 n3 z3,.slice A4 n4 z4]));have HC0:=Hd hC;go_upto_region 6 with fail
    clear x0 x1 x2 x3 x4 l3 p1 p2 p3 p4 ht hse hC hBl hbl2;have y0:=D0.out.blk.cell_ 0 _ rfl;have y1:=D0.out.blk.cell_ 1 _ rfl;have y2:=D0.out.blk.cell_ 2 _ rfl;have y3:=D0.out.blk.cell_ 3 _ rfl;have y4:=D0.out.blk.cell_ 4 _ rfl;generalize wr.alloc (.cells #[.int .i64 t.st,.slice A1 t.set.length z1,.slice A2 t.pre.length z2,.slice A3 n3 z3,.slice A4 n4 z4] 133)=x0 at D0 y0 y1 y2 y3 y4⊢;by_cases h0:t.st<0
    ·have HE:=Hd (show E=5 by rw[←XE.out];exact chk_se hkl (by rw[HTT.out];exact se_st0 h0))
     go_wp2_with fail
     go_ret;exact⟨by rw[HE.out];rfl,D0.out.base.bel⟩
    by_cases h2:2<t.st
    ·have h0':0≤t.st:=by omega
     have HE:=Hd (show E=5 by rw[←XE.out];exact chk_se hkl (by rw[HTT.out];exact se_st2 h2))
     go_wp2_with fail
     go_ret;exact⟨by rw[HE.out];rfl,D0.out.base.bel⟩
    have h0':0≤t.st:=by omega
    have h2':t.st≤2:=by omega
    cases e1:pairsB 9 6 t.set with
    |false=>
     have HB1:=Hd e1;have H1:=Hd (fun w (hT:Tabs w) h=>(show pairsB 9 6 t.set=false from e1)▸pairs_any w (.slice A1 t.set.length z1) t.set 6 9 hT h (by decide))
     clear e1;have HE:=Hd (show E=5 by rw[←XE.out];exact chk_se hkl (by rw[HTT.out];exact se_p1 HB1.out))
     go_wp2_with fail
     refine(H1.out _ (HT.out.below D0.out.base.bel) (Q1.out.now D0.out.base.bel)).mono ?_;rintro e x1 ⟨rfl,b1⟩;have D1:=Hd (D0.out.keep b1);clear b1 y0 y1 y2 y3 y4;have y0:=D1.out.blk.cell_ 0 _ rfl;have y1:=D1.out.blk.cell_ 1 _ rfl;have y2:=D1.out.blk.cell_ 2 _ rfl;have y3:=D1.out.blk.cell_ 3 _ rfl;have y4:=D1.out.blk.cell_ 4 _ rfl;go_wp2_with fail
     go_ret;exact⟨by rw[HE.out];rfl,D1.out.base.bel⟩
    |true=>
     have HB1:=Hd e1;have H1:=Hd (fun w (hT:Tabs w) h=>(show pairsB 9 6 t.set=true from e1)▸pairs_any w (.slice A1 t.set.length z1) t.set 6 9 hT h (by decide))
     clear e1;cases e2:pairsB 11 6 t.pre with
     |false=>
      have HB2:=Hd e2;have H2:=Hd (fun w (hT:Tabs w) h=>(show pairsB 11 6 t.pre=false from e2)▸pairs_any w (.slice A2 t.pre.length z2) t.pre 6 11 hT h (by decide))
      clear e2;have HE:=Hd (show E=5 by rw[←XE.out];exact chk_se hkl (by rw[HTT.out];exact se_p2 HB2.out))
      go_wp2_with fail
      refine(H1.out _ (HT.out.below D0.out.base.bel) (Q1.out.now D0.out.base.bel)).mono ?_;rintro e x1 ⟨rfl,b1⟩;have D1:=Hd (D0.out.keep b1);clear b1 y0 y1 y2 y3 y4;have y0:=D1.out.blk.cell_ 0 _ rfl;have y1:=D1.out.blk.cell_ 1 _ rfl;have y2:=D1.out.blk.cell_ 2 _ rfl;have y3:=D1.out.blk.cell_ 3 _ rfl;have y4:=D1.out.blk.cell_ 4 _ rfl;go_wp2_with fail
      refine(H2.out _ (HT.out.below D1.out.base.bel) (Q2.out.now D1.out.base.bel)).mono ?_;rintro e x2 ⟨rfl,b2⟩;have D2:=Hd (D1.out.keep b2);clear b2 y0 y1 y2 y3 y4;have y0:=D2.out.blk.cell_ 0 _ rfl;have y1:=D2.out.blk.cell_ 1 _ rfl;have y2:=D2.out.blk.cell_ 2 _ rfl;have y3:=D2.out.blk.cell_ 3 _ rfl;have y4:=D2.out.blk.cell_ 4 _ rfl;go_wp2_with fail
      go_ret;exact⟨by rw[HE.out];rfl,D2.out.base.bel⟩
     |true=>
      have HB2:=Hd e2;have H2:=Hd (fun w (hT:Tabs w) h=>(show pairsB 11 6 t.pre=true from e2)▸pairs_any w (.slice A2 t.pre.length z2) t.pre 6 11 hT h (by decide))
      clear e2;cases e3:pairsB 9 6 t.sav with
      |false=>
       have HB3:=Hd e3;have H3:=Hd (fun w (hT:Tabs w) h=>(show pairsB 9 6 t.sav=false from e3)▸pairs_any w (.slice A3 n3 z3) t.sav 6 9 hT h (by decide))
       clear e3;have HE:=Hd (show E=5 by rw[←XE.out];exact chk_se hkl (by rw[HTT.out];exact se_p3 HB3.out))
       go_wp2_with fail
       refine(H1.out _ (HT.out.below D0.out.base.bel) (Q1.out.now D0.out.base.bel)).mono ?_;rintro e x1 ⟨rfl,b1⟩;have D1:=Hd (D0.out.keep b1);clear b1 y0 y1 y2 y3 y4;have y0:=D1.out.blk.cell_ 0 _ rfl;have y1:=D1.out.blk.cell_ 1 _ rfl;have y2:=D1.out.blk.cell_ 2 _ rfl;have y3:=D1.out.blk.cell_ 3 _ rfl;have y4:=D1.out.blk.cell_ 4 _ rfl;go_wp2_with fail
       refine(H2.out _ (HT.out.below D1.out.base.bel) (Q2.out.now D1.out.base.bel)).mono ?_;rintro e x2 ⟨rfl,b2⟩;have D2:=Hd (D1.out.keep b2);clear b2 y0 y1 y2 y3 y4;have y0:=D2.out.blk.cell_ 0 _ rfl;have y1:=D2.out.blk.cell_ 1 _ rfl;have y2:=D2.out.blk.cell_ 2 _ rfl;have y3:=D2.out.blk.cell_ 3 _ rfl;have y4:=D2.out.blk.cell_ 4 _ rfl;go_wp2_with fail
       refine(H3.out _ (HT.out.below D2.out.base.bel) (Q3.out.now D2.out.base.bel)).mono ?_;rintro e x3 ⟨rfl,b3⟩;have D3:=Hd (D2.out.keep b3);clear b3 y0 y1 y2 y3 y4;have y0:=D3.out.blk.cell_ 0 _ rfl;have y1:=D3.out.blk.cell_ 1 _ rfl;have y2:=D3.out.blk.cell_ 2 _ rfl;have y3:=D3.out.blk.cell_ 3 _ rfl;have y4:=D3.out.blk.cell_ 4 _ rfl;go_wp2_with fail
       go_ret;exact⟨by rw[HE.out];rfl,D3.out.base.bel⟩
      |true=>
       have HB3:=Hd e3;have H3:=Hd (fun w (hT:Tabs w) h=>(show pairsB 9 6 t.sav=true from e3)▸pairs_any w (.slice A3 n3 z3) t.sav 6 9 hT h (by decide))
       clear e3;cases e4:pairsB 10 100 t.wri with
       |false=>
        have HB4:=Hd e4;have H4:=Hd (fun w (hT:Tabs w) h=>(show pairsB 10 100 t.wri=false from e4)▸pairs_any w (.slice A4 n4 z4) t.wri 100 10 hT h (by decide))
        clear e4;have HE:=Hd (show E=5 by rw[←XE.out];exact chk_se hkl (by rw[HTT.out];exact se_p4 HB4.out))
        go_wp2_with fail
        refine(H1.out _ (HT.out.below D0.out.base.bel) (Q1.out.now D0.out.base.bel)).mono ?_;rintro e x1 ⟨rfl,b1⟩;have D1:=Hd (D0.out.keep b1);clear b1 y0 y1 y2 y3 y4;have y0:=D1.out.blk.cell_ 0 _ rfl;have y1:=D1.out.blk.cell_ 1 _ rfl;have y2:=D1.out.blk.cell_ 2 _ rfl;have y3:=D1.out.blk.cell_ 3 _ rfl;have y4:=D1.out.blk.cell_ 4 _ rfl;go_wp2_with fail
        refine(H2.out _ (HT.out.below D1.out.base.bel) (Q2.out.now D1.out.base.bel)).mono ?_;rintro e x2 ⟨rfl,b2⟩;have D2:=Hd (D1.out.keep b2);clear b2 y0 y1 y2 y3 y4;have y0:=D2.out.blk.cell_ 0 _ rfl;have y1:=D2.out.blk.cell_ 1 _ rfl;have y2:=D2.out.blk.cell_ 2 _ rfl;have y3:=D2.out.blk.cell_ 3 _ rfl;have y4:=D2.out.blk.cell_ 4 _ rfl;go_wp2_with fail
        refine(H3.out _ (HT.out.below D2.out.base.bel) (Q3.out.now D2.out.base.bel)).mono ?_;rintro e x3 ⟨rfl,b3⟩;have D3:=Hd (D2.out.keep b3);clear b3 y0 y1 y2 y3 y4;have y0:=D3.out.blk.cell_ 0 _ rfl;have y1:=D3.out.blk.cell_ 1 _ rfl;have y2:=D3.out.blk.cell_ 2 _ rfl;have y3:=D3.out.blk.cell_ 3 _ rfl;have y4:=D3.out.blk.cell_ 4 _ rfl;go_wp2_with fail
        refine(H4.out _ (HT.out.below D3.out.base.bel) (Q4.out.now D3.out.base.bel)).mono ?_;rintro e x4 ⟨rfl,b4⟩;have D4:=Hd (D3.out.keep b4);clear b4 y0 y1 y2 y3 y4;have y0:=D4.out.blk.cell_ 0 _ rfl;have y1:=D4.out.blk.cell_ 1 _ rfl;have y2:=D4.out.blk.cell_ 2 _ rfl;have y3:=D4.out.blk.cell_ 3 _ rfl;have y4:=D4.out.blk.cell_ 4 _ rfl;go_wp2_with fail
        go_ret;exact⟨by rw[HE.out];rfl,D4.out.base.bel⟩
       |true=>
        have HB4:=Hd e4;have H4:=Hd (fun w (hT:Tabs w) h=>(show pairsB 10 100 t.wri=true from e4)▸pairs_any w (.slice A4 n4 z4) t.wri 100 10 hT h (by decide))
        clear e4;by_cases hs0:t.st=0∧0<n3
        ·obtain⟨hs0,hs1⟩:=hs0;have HE:=Hd (show E=5 by rw[←XE.out];exact chk_se hkl (by rw[HTT.out];exact se_idle hs0 (by rw[HN3.out];exact hs1)))
         have g3:(t.st==0)=true:=by simpa using hs0
         have g4:(0:Int)<(n3:Int):=by omega
         clear hs0;go_wp2_with fail
         refine(H1.out _ (HT.out.below D0.out.base.bel) (Q1.out.now D0.out.base.bel)).mono ?_;rintro e x1 ⟨rfl,b1⟩;have D1:=Hd (D0.out.keep b1);clear b1 y0 y1 y2 y3 y4;have y0:=D1.out.blk.cell_ 0 _ rfl;have y1:=D1.out.blk.cell_ 1 _ rfl;have y2:=D1.out.blk.cell_ 2 _ rfl;have y3:=D1.out.blk.cell_ 3 _ rfl;have y4:=D1.out.blk.cell_ 4 _ rfl;go_wp2_with fail
         refine(H2.out _ (HT.out.below D1.out.base.bel) (Q2.out.now D1.out.base.bel)).mono ?_;rintro e x2 ⟨rfl,b2⟩;have D2:=Hd (D1.out.keep b2);clear b2 y0 y1 y2 y3 y4;have y0:=D2.out.blk.cell_ 0 _ rfl;have y1:=D2.out.blk.cell_ 1 _ rfl;have y2:=D2.out.blk.cell_ 2 _ rfl;have y3:=D2.out.blk.cell_ 3 _ rfl;have y4:=D2.out.blk.cell_ 4 _ rfl;go_wp2_with fail
         refine(H3.out _ (HT.out.below D2.out.base.bel) (Q3.out.now D2.out.base.bel)).mono ?_;rintro e x3 ⟨rfl,b3⟩;have D3:=Hd (D2.out.keep b3);clear b3 y0 y1 y2 y3 y4;have y0:=D3.out.blk.cell_ 0 _ rfl;have y1:=D3.out.blk.cell_ 1 _ rfl;have y2:=D3.out.blk.cell_ 2 _ rfl;have y3:=D3.out.blk.cell_ 3 _ rfl;have y4:=D3.out.blk.cell_ 4 _ rfl;go_wp2_with fail
         refine(H4.out _ (HT.out.below D3.out.base.bel) (Q4.out.now D3.out.base.bel)).mono ?_;rintro e x4 ⟨rfl,b4⟩;have D4:=Hd (D3.out.keep b4);clear b4 y0 y1 y2 y3 y4;have y0:=D4.out.blk.cell_ 0 _ rfl;have y1:=D4.out.blk.cell_ 1 _ rfl;have y2:=D4.out.blk.cell_ 2 _ rfl;have y3:=D4.out.blk.cell_ 3 _ rfl;have y4:=D4.out.blk.cell_ 4 _ rfl;go_wp2_with fail
         go_ret;exact⟨by rw[HE.out];rfl,D4.out.base.bel⟩
        by_cases hw0:t.st≠1∧0<n4
        ·obtain⟨hw0,hw1⟩:=hw0;have HE:=Hd (show E=5 by rw[←XE.out];exact chk_se hkl (by rw[HTT.out];exact se_calm hw0 (by rw[HN4.out];exact hw1)))
         have g5:(t.st !=1)=true:=by simpa using hw0
         have g6:(0:Int)<(n4:Int):=by omega
         by_cases hz:t.st=0
         ·have g7:¬ 0<n3:=fun h=>hs0 ⟨hz,h⟩;have g3:(t.st==0)=true:=by simpa using hz
          have g4:¬ ((0:Int)<(n3:Int)):=by omega
          clear hz hs0 hw0 g7;go_wp2_with fail
          refine(H1.out _ (HT.out.below D0.out.base.bel) (Q1.out.now D0.out.base.bel)).mono ?_;rintro e x1 ⟨rfl,b1⟩;have D1:=Hd (D0.out.keep b1);clear b1 y0 y1 y2 y3 y4;have y0:=D1.out.blk.cell_ 0 _ rfl;have y1:=D1.out.blk.cell_ 1 _ rfl;have y2:=D1.out.blk.cell_ 2 _ rfl;have y3:=D1.out.blk.cell_ 3 _ rfl;have y4:=D1.out.blk.cell_ 4 _ rfl;go_wp2_with fail
          refine(H2.out _ (HT.out.below D1.out.base.bel) (Q2.out.now D1.out.base.bel)).mono ?_;rintro e x2 ⟨rfl,b2⟩;have D2:=Hd (D1.out.keep b2);clear b2 y0 y1 y2 y3 y4;have y0:=D2.out.blk.cell_ 0 _ rfl;have y1:=D2.out.blk.cell_ 1 _ rfl;have y2:=D2.out.blk.cell_ 2 _ rfl;have y3:=D2.out.blk.cell_ 3 _ rfl;have y4:=D2.out.blk.cell_ 4 _ rfl;go_wp2_with fail
          refine(H3.out _ (HT.out.below D2.out.base.bel) (Q3.out.now D2.out.base.bel)).mono ?_;rintro e x3 ⟨rfl,b3⟩;have D3:=Hd (D2.out.keep b3);clear b3 y0 y1 y2 y3 y4;have y0:=D3.out.blk.cell_ 0 _ rfl;have y1:=D3.out.blk.cell_ 1 _ rfl;have y2:=D3.out.blk.cell_ 2 _ rfl;have y3:=D3.out.blk.cell_ 3 _ rfl;have y4:=D3.out.blk.cell_ 4 _ rfl;go_wp2_with fail
          refine(H4.out _ (HT.out.below D3.out.base.bel) (Q4.out.now D3.out.base.bel)).mono ?_;rintro e x4 ⟨rfl,b4⟩;have D4:=Hd (D3.out.keep b4);clear b4 y0 y1 y2 y3 y4;have y0:=D4.out.blk.cell_ 0 _ rfl;have y1:=D4.out.blk.cell_ 1 _ rfl;have y2:=D4.out.blk.cell_ 2 _ rfl;have y3:=D4.out.blk.cell_ 3 _ rfl;have y4:=D4.out.blk.cell_ 4 _ rfl;go_wp2_with fail
          go_ret;exact⟨by rw[HE.out];rfl,D4.out.base.bel⟩
         ·have g3:(t.st==0)=false:=by simpa using hz
          clear hz hs0 hw0;go_wp2_with fail
          refine(H1.out _ (HT.out.below D0.out.base.bel) (Q1.out.now D0.out.base.bel)).mono ?_;rintro e x1 ⟨rfl,b1⟩;have D1:=Hd (D0.out.keep b1);clear b1 y0 y1 y2 y3 y4;have y0:=D1.out.blk.cell_ 0 _ rfl;have y1:=D1.out.blk.cell_ 1 _ rfl;have y2:=D1.out.blk.cell_ 2 _ rfl;have y3:=D1.out.blk.cell_ 3 _ rfl;have y4:=D1.out.blk.cell_ 4 _ rfl;go_wp2_with fail
          refine(H2.out _ (HT.out.below D1.out.base.bel) (Q2.out.now D1.out.base.bel)).mono ?_;rintro e x2 ⟨rfl,b2⟩;have D2:=Hd (D1.out.keep b2);clear b2 y0 y1 y2 y3 y4;have y0:=D2.out.blk.cell_ 0 _ rfl;have y1:=D2.out.blk.cell_ 1 _ rfl;have y2:=D2.out.blk.cell_ 2 _ rfl;have y3:=D2.out.blk.cell_ 3 _ rfl;have y4:=D2.out.blk.cell_ 4 _ rfl;go_wp2_with fail
          refine(H3.out _ (HT.out.below D2.out.base.bel) (Q3.out.now D2.out.base.bel)).mono ?_;rintro e x3 ⟨rfl,b3⟩;have D3:=Hd (D2.out.keep b3);clear b3 y0 y1 y2 y3 y4;have y0:=D3.out.blk.cell_ 0 _ rfl;have y1:=D3.out.blk.cell_ 1 _ rfl;have y2:=D3.out.blk.cell_ 2 _ rfl;have y3:=D3.out.blk.cell_ 3 _ rfl;have y4:=D3.out.blk.cell_ 4 _ rfl;go_wp2_with fail
          refine(H4.out _ (HT.out.below D3.out.base.bel) (Q4.out.now D3.out.base.bel)).mono ?_;rintro e x4 ⟨rfl,b4⟩;have D4:=Hd (D3.out.keep b4);clear b4 y0 y1 y2 y3 y4;have y0:=D4.out.blk.cell_ 0 _ rfl;have y1:=D4.out.blk.cell_ 1 _ rfl;have y2:=D4.out.blk.cell_ 2 _ rfl;have y3:=D4.out.blk.cell_ 3 _ rfl;have y4:=D4.out.blk.cell_ 4 _ rfl;go_wp2_with fail
          go_ret;exact⟨by rw[HE.out];rfl,D4.out.base.bel⟩
        have HSE:=Hd (se_ok h0' h2' HB1.out HB2.out HB3.out HB4.out (fun h=>by rw[HN3.out];rcases Nat.eq_zero_or_pos n3 with h'|h';exact h';exact absurd ⟨h,h'⟩ hs0) (fun h=>by rw[HN4.out];rcases Nat.eq_zero_or_pos n4 with h'|h';exact h';exact absurd ⟨h,h'⟩ hw0))
        have hlw:n4≤100:=by rw[←HN4.out];exact((pairs_iff _ _ _).1 HB4.out).2.2
        go_wp2_with fail
        refine(H1.out _ (HT.out.below D0.out.base.bel) (Q1.out.now D0.out.base.bel)).mono ?_;rintro e x1 ⟨rfl,b1⟩;have D1:=Hd (D0.out.keep b1);clear b1 y0 y1 y2 y3 y4;have y0:=D1.out.blk.cell_ 0 _ rfl;have y1:=D1.out.blk.cell_ 1 _ rfl;have y2:=D1.out.blk.cell_ 2 _ rfl;have y3:=D1.out.blk.cell_ 3 _ rfl;have y4:=D1.out.blk.cell_ 4 _ rfl;go_wp2_with fail
        refine(H2.out _ (HT.out.below D1.out.base.bel) (Q2.out.now D1.out.base.bel)).mono ?_;rintro e x2 ⟨rfl,b2⟩;have D2:=Hd (D1.out.keep b2);clear b2 y0 y1 y2 y3 y4;have y0:=D2.out.blk.cell_ 0 _ rfl;have y1:=D2.out.blk.cell_ 1 _ rfl;have y2:=D2.out.blk.cell_ 2 _ rfl;have y3:=D2.out.blk.cell_ 3 _ rfl;have y4:=D2.out.blk.cell_ 4 _ rfl;go_wp2_with fail
        refine(H3.out _ (HT.out.below D2.out.base.bel) (Q3.out.now D2.out.base.bel)).mono ?_;rintro e x3 ⟨rfl,b3⟩;have D3:=Hd (D2.out.keep b3);clear b3 y0 y1 y2 y3 y4;have y0:=D3.out.blk.cell_ 0 _ rfl;have y1:=D3.out.blk.cell_ 1 _ rfl;have y2:=D3.out.blk.cell_ 2 _ rfl;have y3:=D3.out.blk.cell_ 3 _ rfl;have y4:=D3.out.blk.cell_ 4 _ rfl;go_wp2_with fail
        refine(H4.out _ (HT.out.below D3.out.base.bel) (Q4.out.now D3.out.base.bel)).mono ?_;rintro e x4 ⟨rfl,b4⟩;have D4:=Hd (D3.out.keep b4);clear b4 y0 y1 y2 y3 y4;have y0:=D4.out.blk.cell_ 0 _ rfl;have y1:=D4.out.blk.cell_ 1 _ rfl;have y2:=D4.out.blk.cell_ 2 _ rfl;have y3:=D4.out.blk.cell_ 3 _ rfl;have y4:=D4.out.blk.cell_ 4 _ rfl;go_upto_region 8 with fail
        go_cut [76] (fun v wc=>v= .bool false∧wc=x4)
        case first=>
         by_cases hz:t.st=0
         ·have g7:¬ 0<n3:=fun h=>hs0 ⟨hz,h⟩;have g8:¬ 0<n4:=fun h=>hw0 ⟨by omega,h⟩
          have g3:(t.st==0)=true:=by simpa using hz
          have g5:(t.st !=1)=true:=by rw[hz];rfl
          clear hz hs0 hw0;go_wp2_with fail
          go_meet;exact⟨rfl,rfl⟩
         ·have g3:(t.st==0)=false:=by simpa using hz
          by_cases hy:t.st=1
          ·have g5:(t.st !=1)=false:=by rw[hy];rfl
           clear hz hs0 hw0 hy;go_wp2_with fail
           go_meet;exact⟨rfl,rfl⟩
          ·have g8:¬ 0<n4:=fun h=>hw0 ⟨hy,h⟩;have g5:(t.st !=1)=true:=by simpa using hy
           clear hz hs0 hw0 hy;go_wp2_with fail
           go_meet;exact⟨rfl,rfl⟩
        case rest=>
         obtain⟨rfl,rfl⟩:=hcut;clear hs0 hw0 h0 h2 h0' h2' i1 i2;have R4:Hid (Reads w w.heap.size 2 A4 t.wri.length (cellsP t.wri)):=by
          obtain⟨A5,c5,e5,_,hr5,_⟩:=Q4.out;injection e5 with e6 e7 e8;subst e6;exact Hd hr5
         go_wp2_with fail
         clear y0 y1 y2 y3 y4;obtain⟨wo,hwo⟩: ∃wo:World,wo=wc:=⟨_,rfl⟩;subst hwo;go_loopw [80] (fun i wx=>∃a:Nat,a≤n4∧i= .int .i64 a∧Hid (∀b (hb:b<t.wri.length),b<a→SortedW W.ses→heldB W.ses k t.wri[b].k=false)∧ChkAt w wx (.slice A W.rows.length c) (.slice (some ad) n c')) (fun i _=>n4-(intOf i).toNat)
         case atStart=>exact⟨0,Nat.zero_le _,rfl,Hd (fun _ _ hb=>absurd hb (Nat.not_lt_zero _)),D4.out.base⟩
         case round=>
          obtain⟨a,ha,rfl,HH,hC⟩:=hrel;by_cases hla:a<n4
          ·have hal:a<t.wri.length:=by rw[HN4.out];exact hla
           obtain⟨bd,hA2,hBl,c1,c2⟩:=pair_at (R4.out.below hC.bel) hal;subst hA2;obtain⟨p,hp⟩: ∃p,t.wri[a]=p:=⟨_,rfl⟩;rw[hp]at c1 c2;have HPP:=Hd hp;have hC2:=hC.keep (boxed _ (.cells #[.string p.k,.string p.v] 60));have y0:=hC.box.cell_ 0 _ rfl;have y1:=hC.box.cell_ 1 _ rfl;have l0:=hC.lt;have HC2:=Hd hC2;have g3:(0:Int)≤(a:Int):=by omega
           have g4:(a:Int)<(n4:Int):=by omega
           clear hC hC2 hp;go_wp2_with fail
           refine(held_any _ _ _ W.ses k p.k ((HW.out.ses.below HC2.out.bel).more HC2.out.bel.size) rfl (by omega)).mono ?_
           rintro e x5 ⟨b,rfl,hh,b5⟩;have HC5:=Hd (HC2.out.keep b5);have HHB:=Hd hh;clear b5 hh y0 y1 l0;cases b with
           |true=>
            have HE:=Hd (show E=5 by
             rw[←XE.out];exact chk_held hkl (p:=p) (by rw[HTT.out,←HPP.out];exact List.getElem_mem hal) (HHB.out.here rfl))
            go_wp2_with fail
            go_ret;exact⟨by rw[HE.out];rfl,HC5.out.bel⟩
           |false=>
            have HH2:=Hd (show∀b (hb:b<t.wri.length),b<a+1→SortedW W.ses→heldB W.ses k t.wri[b].k=false from fun b hb hba hs=>by
             rcases Nat.lt_succ_iff_lt_or_eq.1 hba with h|rfl
             ·exact HH.out b hb h hs
             ·rw[HPP.out];exact(HHB.out.sorted hs).symm)
            go_wp2_with fail
            go_roundw
            case rel=>exact⟨a+1,by omega,by go_num,HH2,HC5.out⟩
            case measure=>simp[intOf];omega
          ·obtain rfl:a=n4:=by omega
           have HG2:=Hd (show∀j,j<k+1→OkAt W.ses j from fun j hj=>by
            rcases Nat.lt_succ_iff_lt_or_eq.1 hj with h|rfl
            ·exact HG.out j h
            ·refine⟨by rw[getD_at hkl,HTT.out];exact HSE.out,fun p hp hs=>?_⟩
             rw[getD_at hkl,HTT.out]at hp;obtain⟨b,hb,rfl⟩:=List.getElem_of_mem hp;exact HH.out b hb (by rw[←HN4.out];exact hb) hs)
           have HC2:=Hd hC;clear hC;go_wp2_with fail
           go_roundw
           case rel=>exact⟨k+1,by omega,by go_num,HG2,HC2.out⟩
           case measure=>simp[intOf];omega
   ·obtain rfl:k=n:=by omega
    have HO:Hid (∀j,j<W.ses.length→OkAt W.ses j):=by rw[HN.out];exact HG
    have hfin:=chk_end HP.out (by rw[HN.out];omega) HO.out
    rw[XE.out]at hfin;have HFI:=Hd hfin;have HC2:=Hd hC;have hrl:W.rows.length≤1000:=by have:=((pairs_iff _ _ _).1 HP.out).2.2;omega
    have HRL:=Hd hrl;have y0:=hC.box.cell_ 0 _ rfl;have y1:=hC.box.cell_ 1 _ rfl;clear hC hfin hrl;go_wp2_with fail
    refine(total_any _ _ _ W ((HW.out.below HC2.out.bel).more HC2.out.bel.size) HRL.out (by rw[HN.out];omega) (okAll_few HO.out)).mono ?_
    rintro e x5 ⟨rfl,b5⟩;have HC5:=Hd (HC2.out.keep b5);clear b5 y0 y1;obtain⟨q,hq⟩: ∃q,card (keysW W)=q:=⟨_,rfl⟩;rw[hq]at HFI⊢;clear hq;by_cases hq:q≤100
    ·have HE:=Hd (show E=0 by rw[HFI.out,if_pos hq])
     have g3:¬ (100:Int)<(q:Int):=by omega
     go_wp2_with fail
     go_ret;exact⟨by rw[HE.out];rfl,HC5.out.bel⟩
    ·have HE:=Hd (show E=5 by rw[HFI.out,if_neg hq])
     have g3:(100:Int)<(q:Int):=by omega
     go_wp2_with fail
     go_ret;exact⟨by rw[HE.out];rfl,HC5.out.bel⟩
end Go.Proofs.YtjbnfigpflambacGreatDoor
