/- back.pairs: which lists of pairs may be. Conditions: those of each lemma. -/
import Derived.Test.YtjbnfigpflambacGreatDoorH08
import Derived.Test.YtjbnfigpflambacGreatDoorH11
namespace Go.Proofs.YtjbnfigpflambacGreatDoor
set_option maxRecDepth 100000
set_option maxHeartbeats 16000000
open _root_.Go.Proofs.Tryz
open Go.ChangeShapes Go.WideShapes Go.ChangeAt Go.RowKit
theorem pairsB_no{kind:Int}{most:Nat}{l:List Pr}{i:Nat}(hi:i<l.length)(h:pairB kind l i=false):pairsB kind most l=false:=by
 cases e:pairsB kind most l with
 |false=>rfl
 |true=>
  unfold pairsB at e;rw[Bool.and_eq_true,List.all_eq_true]at e;have:=e.1 i (List.mem_range.2 hi);rw[h]at this;cases this
theorem pairsB_yes{kind:Int}{most:Nat}{l:List Pr}(h: ∀i,i<l.length→pairB kind l i=true):pairsB kind most l=decide (l.length≤most):=by
 have e:(List.range l.length).all (pairB kind l)=true:=List.all_eq_true.2 fun i hi=>h i (List.mem_range.1 hi);unfold pairsB;rw[e,Bool.true_and]
theorem pairs_any(w:World)(v:Value)(l:List Pr)(most:Nat)(kind:Int)(hT:Tabs w)(h:PL w w.heap.size v l)(_hm:most≤1000):
  Calls Tryz.prog 89 #[v,.int .i64 (most:Nat),.int .i64 kind] w fun e w'=>e= .returned (.bool (pairsB kind most l))∧Below w.heap.size w w':=by
 obtain⟨A,c,rfl,hc,hr,hf⟩:=h;have hl:l.length≤4398046510976:=hf.1;have HR:=Hd hr;have HF:=Hd hf;have HT:=Hd hT;obtain⟨n,hN⟩: ∃n,l.length=n:=⟨_,rfl⟩;rw[hN]at hl⊢;have HN:=Hd hN;obtain⟨B,hB⟩: ∃B,pairsB kind most l=B:=⟨_,rfl⟩;rw[hB];have HB0:=Hd hB;clear hr hf hc hN hT hB;go_enter func89,ntmps89
 go_wp2_with fail
 go_loopw [11] (fun i wx=>∃k:Nat,k≤n∧i= .int .i64 k∧Hid (∀j,j<k→pairB kind l j=true)∧Below w.heap.size w wx) (fun i _=>n-(intOf i).toNat)
 case atStart=>exact⟨0,Nat.zero_le _,rfl,Hd (fun j hj=>absurd hj (Nat.not_lt_zero _)),bR⟩
 case round=>
  obtain⟨k,hk,rfl,HG,hb⟩:=hrel;by_cases hlt:k<n
  ·have hkl:k<l.length:=by rw[HN.out];exact hlt
   obtain⟨ad,hA,hBl,c1,c2⟩:=pair_at (HR.out.below hb) hkl;subst hA;obtain⟨p,hp⟩: ∃p,l[k]=p:=⟨_,rfl⟩;rw[hp]at c1 c2;have hpf:p.k.size≤maxLen∧p.v.size≤maxLen:=HF.out.2 p (by rw[←hp];exact List.getElem_mem hkl)
   have hgd:l.getD k Pr.no=p:=by rw[getD_at hkl,hp]
   have g1:(0:Int)≤(k:Int):=by omega
   have g2:(k:Int)<(n:Int):=by omega
   have HB:=Hd hb;have HP:=Hd hpf;have HGD:=Hd hgd;clear hb hp hpf hgd;obtain⟨E,hE⟩: ∃E,checkE ⟨kind,p.k,p.v⟩=E:=⟨_,rfl⟩;have hX:pairB kind l k=(decide (E=0)&&(decide (k=0)||ltS (l.getD (k-1) Pr.no).k p.k)):=by unfold pairB;rw[HGD.out,hE]
   have hcall:=fun w (hT:Tabs w)=>check_all ⟨kind,p.k,p.v⟩ w hT HP.out.1 HP.out.2;rw[hE]at hcall;have HC:=Hd hcall;have HX:=Hd hX;clear hX hcall hE;by_cases hE0:E=0
   ·have e0:(E !=0)=false:=by simp[hE0]
    by_cases hk0:k=0
    ·have HXX:=Hd (show pairB kind l k=true by rw[HX.out,hE0,hk0];rfl)
     have g3:decide (0<k)=false:=by simp;omega
     clear hE0 hk0;go_upto_region 4 with fail
     go_cut [7,8,38] (fun a b t wc=>Below w.heap.size w wc∧t= .bool false)
     case first=>
      go_wp2_with fail
      obtain⟨b,hb0⟩: ∃b,wr.heap.size=b:=⟨_,rfl⟩;have hblk:=Blk.new wr 60 #[.string p.k,.string p.v];have hbel:=HB.out.alloc HB.out.size (.cells #[.string p.k,.string p.v] 60);have hold: ∀(x:Addr) u,wr.cell? x=some u→(wr.alloc (.cells #[.string p.k,.string p.v] 60)).cell? x=some u:=fun x u h=>(World.cell?_alloc_lt wr _ x (World.block_lt_of_cell? wr x h)).trans h;rw[hb0]at hblk⊢;generalize wr.alloc (.cells #[.string p.k,.string p.v] 60)=wq at*;have y0:wq.cell? ⟨b,0,none⟩=some (.string p.k):=hblk.cell 0;have y1:wq.cell? ⟨b,1,none⟩=some (.string p.v):=hblk.cell 1;have hD:Below w.heap.size w wq.drew:=⟨hbel.os,hbel.tape,hbel.output,hbel.size,hbel.block⟩;have HD:=Hd (And.intro hD (HT.out.below hD));clear hblk hbel hb0 hold hD c1 c2;refine region_late (fun w'=>w'.cell? ⟨b,0,none⟩=some (.string p.k)∧w'.cell? ⟨b,1,none⟩=some (.string p.v)) [] (by kernel_rfl) ?_
      refine anyL_take1 (i:=0) (v:=.int .i64 kind) (o:=⟨some 16,_,_,_,_,_⟩) rfl (by kernel_rfl) (by kernel_rfl) (fun _ _ _ h=>h) (Or.inl ⟨by kernel_rfl,fun w' hS=>by(obtain⟨s0,s1⟩:=hS;go_simp)⟩) ⟨y0,y1⟩ ?_
      simp only[Act.put,List.setIfInBounds_toArray,List.set_cons_zero,List.set_cons_succ];refine anyL_take1 (i:=1) (v:=.pointer (some ⟨b,0,none⟩)) (o:=⟨some 17,_,_,_,_,_⟩) rfl (by kernel_rfl) (by kernel_rfl) (fun _ _ _ h=>h) (Or.inl ⟨by kernel_rfl,fun w' hS=>by(obtain⟨s0,s1⟩:=hS;go_simp)⟩) ⟨y0,y1⟩ ?_
      simp only[Act.put,List.setIfInBounds_toArray,List.set_cons_zero,List.set_cons_succ];refine anyL_take1 (i:=2) (v:=.string p.k) (o:=⟨some 18,_,_,_,_,_⟩) rfl (by kernel_rfl) (by kernel_rfl) (fun _ _ _ h=>h) (Or.inl ⟨by kernel_rfl,fun w' hS=>by(obtain⟨s0,s1⟩:=hS;go_simp)⟩) ⟨y0,y1⟩ ?_
      simp only[Act.put,List.setIfInBounds_toArray,List.set_cons_zero,List.set_cons_succ];refine anyL_take1 (i:=3) (v:=.pointer (some ⟨b,1,none⟩)) (o:=⟨some 19,_,_,_,_,_⟩) rfl (by kernel_rfl) (by kernel_rfl) (fun _ _ _ h=>h) (Or.inl ⟨by kernel_rfl,fun w' hS=>by(obtain⟨s0,s1⟩:=hS;go_simp)⟩) ⟨y0,y1⟩ ?_
      simp only[Act.put,List.setIfInBounds_toArray,List.set_cons_zero,List.set_cons_succ];refine anyL_take1 (i:=4) (v:=.string p.v) (o:=⟨some 20,_,_,_,_,_⟩) rfl (by kernel_rfl) (by kernel_rfl) (fun _ _ _ h=>h) (Or.inl ⟨by kernel_rfl,fun w' hS=>by(obtain⟨s0,s1⟩:=hS;go_simp)⟩) ⟨y0,y1⟩ ?_
      simp only[Act.put,List.setIfInBounds_toArray,List.set_cons_zero,List.set_cons_succ];refine anyL_take1 (i:=5) (v:=.agg #[.int .i64 kind,.string p.k,.string p.v]) (o:=⟨some 21,_,_,_,_,_⟩) rfl (by kernel_rfl) (by kernel_rfl) (fun _ _ _ h=>h) (Or.inl ⟨by kernel_rfl,fun w' hS=>by(obtain⟨s0,s1⟩:=hS;go_simp)⟩) ⟨y0,y1⟩ ?_
      simp only[Act.put,List.setIfInBounds_toArray,List.set_cons_zero,List.set_cons_succ];refine anyL_one (i:=6) (by kernel_rfl) rfl (fun K hK=>?_)
      go_simp;refine(HC.out _ HD.out.2).mono ?_;rintro e w1 ⟨rfl,b1⟩;have sS:=And.intro (keep_cell b1 y0) (keep_cell b1 y1);refine hK.out _ _ (fun _=>sS) ?_;have HBB:=Hd (below_step HD.out.1 leR b1);clear b1 hK K;refine anyL_take1 (i:=7) (v:=.bool false) (o:=⟨some 23,_,_,_,_,_⟩) rfl (by kernel_rfl) (by kernel_rfl) (fun _ _ _ h=>h) (Or.inl ⟨by kernel_rfl,fun w' hS=>by(obtain⟨s0,s1⟩:=hS;go_simp)⟩) sS ?_
      simp only[Act.put,List.setIfInBounds_toArray,List.set_cons_zero,List.set_cons_succ];refine anyL_take1 (i:=8) (v:=.bool false) (o:=⟨some 24,_,_,_,_,_⟩) rfl (by kernel_rfl) (by kernel_rfl) (fun _ _ _ h=>h) (Or.inl ⟨by kernel_rfl,fun w' hS=>by(obtain⟨s0,s1⟩:=hS;go_simp)⟩) sS ?_
      simp only[Act.put,List.setIfInBounds_toArray,List.set_cons_zero,List.set_cons_succ];refine anyL_take1 (i:=9) (v:=.int .i64 (k:Nat)) (o:=⟨some 25,_,_,_,_,_⟩) rfl (by kernel_rfl) (by kernel_rfl) (fun _ _ _ h=>h) (Or.inl ⟨by kernel_rfl,fun w' hS=>by(obtain⟨s0,s1⟩:=hS;go_simp)⟩) sS ?_
      simp only[Act.put,List.setIfInBounds_toArray,List.set_cons_zero,List.set_cons_succ];refine anyL_take1 (i:=10) (v:=.bool false) (o:=⟨some 26,_,_,_,_,_⟩) rfl (by kernel_rfl) (by kernel_rfl) (fun _ _ _ h=>h) (Or.inl ⟨by kernel_rfl,fun w' hS=>by(obtain⟨s0,s1⟩:=hS;go_simp)⟩) sS ?_
      simp only[Act.put,List.setIfInBounds_toArray,List.set_cons_zero,List.set_cons_succ];refine anyL_take1 (i:=11) (v:=.bool false) (o:=⟨some 27,_,_,_,_,_⟩) rfl (by kernel_rfl) (by kernel_rfl) (fun _ _ _ h=>h) (Or.inl ⟨by kernel_rfl,fun w' hS=>by(obtain⟨s0,s1⟩:=hS;go_simp)⟩) sS ?_
      simp only[Act.put,List.setIfInBounds_toArray,List.set_cons_zero,List.set_cons_succ];refine anyL_take1 (i:=12) (v:=undef) (o:=⟨some 28,_,_,_,_,_⟩) rfl (by kernel_rfl) (by kernel_rfl) (fun _ _ _ h=>h) (Or.inr ⟨by kernel_rfl,rfl⟩) sS ?_
      simp only[Act.put,List.setIfInBounds_toArray,List.set_cons_zero,List.set_cons_succ];refine anyL_take1 (i:=13) (v:=undef) (o:=⟨some 29,_,_,_,_,_⟩) rfl (by kernel_rfl) (by kernel_rfl) (fun _ _ _ h=>h) (Or.inr ⟨by kernel_rfl,rfl⟩) sS ?_
      simp only[Act.put,List.setIfInBounds_toArray,List.set_cons_zero,List.set_cons_succ];refine anyL_take1 (i:=14) (v:=undef) (o:=⟨some 30,_,_,_,_,_⟩) rfl (by kernel_rfl) (by kernel_rfl) (fun _ _ _ h=>h) (Or.inr ⟨by kernel_rfl,rfl⟩) sS ?_
      simp only[Act.put,List.setIfInBounds_toArray,List.set_cons_zero,List.set_cons_succ];refine anyL_take1 (i:=15) (v:=undef) (o:=⟨some 31,_,_,_,_,_⟩) rfl (by kernel_rfl) (by kernel_rfl) (fun _ _ _ h=>h) (Or.inr ⟨by kernel_rfl,rfl⟩) sS ?_
      simp only[Act.put,List.setIfInBounds_toArray,List.set_cons_zero,List.set_cons_succ];refine anyL_take1 (i:=16) (v:=undef) (o:=⟨some 32,_,_,_,_,_⟩) rfl (by kernel_rfl) (by kernel_rfl) (fun _ _ _ h=>h) (Or.inr ⟨by kernel_rfl,rfl⟩) sS ?_
      simp only[Act.put,List.setIfInBounds_toArray,List.set_cons_zero,List.set_cons_succ];refine anyL_take1 (i:=17) (v:=undef) (o:=⟨some 33,_,_,_,_,_⟩) rfl (by kernel_rfl) (by kernel_rfl) (fun _ _ _ h=>h) (Or.inr ⟨by kernel_rfl,rfl⟩) sS ?_
      simp only[Act.put,List.setIfInBounds_toArray,List.set_cons_zero,List.set_cons_succ];refine anyL_take1 (i:=18) (v:=undef) (o:=⟨some 34,_,_,_,_,_⟩) rfl (by kernel_rfl) (by kernel_rfl) (fun _ _ _ h=>h) (Or.inr ⟨by kernel_rfl,rfl⟩) sS ?_
      simp only[Act.put,List.setIfInBounds_toArray,List.set_cons_zero,List.set_cons_succ];refine anyL_take1 (i:=19) (v:=undef) (o:=⟨some 35,_,_,_,_,_⟩) rfl (by kernel_rfl) (by kernel_rfl) (fun _ _ _ h=>h) (Or.inr ⟨by kernel_rfl,rfl⟩) sS ?_
      simp only[Act.put,List.setIfInBounds_toArray,List.set_cons_zero,List.set_cons_succ];refine anyL_take1 (i:=20) (v:=undef) (o:=⟨some 36,_,_,_,_,_⟩) rfl (by kernel_rfl) (by kernel_rfl) (fun _ _ _ h=>h) (Or.inr ⟨by kernel_rfl,rfl⟩) sS ?_
      simp only[Act.put,List.setIfInBounds_toArray,List.set_cons_zero,List.set_cons_succ];refine anyL_take1 (i:=21) (v:=.bool false) (o:=⟨some 37,_,_,_,_,_⟩) rfl (by kernel_rfl) (by kernel_rfl) (fun _ _ _ h=>h) (Or.inl ⟨by kernel_rfl,fun w' hS=>by(obtain⟨s0,s1⟩:=hS;go_simp)⟩) sS ?_
      simp only[Act.put,List.setIfInBounds_toArray,List.set_cons_zero,List.set_cons_succ];refine anyL_take1 (i:=22) (v:=.bool false) (o:=⟨some 38,_,_,_,_,_⟩) rfl (by kernel_rfl) (by kernel_rfl) (fun _ _ _ h=>h) (Or.inl ⟨by kernel_rfl,fun w' hS=>by(obtain⟨s0,s1⟩:=hS;go_simp)⟩) sS ?_
      simp only[Act.put,List.setIfInBounds_toArray,List.set_cons_zero,List.set_cons_succ];refine anyL_done (by kernel_rfl) ?_ _
      clear sS;go_wp2_with fail
      go_meet;exact⟨HBB.out,rfl⟩
     case rest=>
      obtain⟨hbc,rfl⟩:=hcut;have HBC:=Hd hbc;clear hbc;go_wp2_with fail
      go_roundw
      case rel=>exact⟨k+1,by omega,by go_num,Hd (fun j hj=>(Nat.lt_succ_iff_lt_or_eq.1 hj).elim (fun h=>HG.out j h) (fun h=>h▸HXX.out)),HBC.out⟩
      case measure=>simp[intOf];omega
    ·have hkm:k-1<l.length:=by omega
     obtain⟨ad2,hA2,-,d1,-⟩:=pair_at (HR.out.below HB.out) hkm;obtain rfl:ad=ad2:=by simpa using hA2
     have hgm:(l.getD (k-1) Pr.no).k=l[k-1].k:=by rw[getD_at hkm]
     obtain⟨q,hq⟩: ∃q,l[k-1].k=q:=⟨_,rfl⟩;rw[hq]at d1 hgm;have hx2:=HX.out;rw[hE0,hgm]at hx2;have g3:decide (0<k)=true:=by simp;omega
     have g4:(0:Int)≤(k:Int)-1:=by omega
     have g5:(k:Int)-1<(n:Int):=by omega
     have g6:((k:Int)-1).toNat=k-1:=by omega
     have g7:(1:Int)≤(k:Int):=by omega
     have g8:IntKind.i64.wrap ((k:Int)-1)=(k:Int)-1:=IntWalk.i64_in _ (by omega)
     have hk0':decide (k=0)=false:=by simpa using hk0
     rw[hk0']at hx2;cases hlt2:ltS q p.k with
     |true=>
      have HXX:=Hd (show pairB kind l k=true by rw[hx2,hlt2];rfl)
      have e1:Op.bytesLess q.toList p.k.toList=true:=hlt2;clear hE0 hk0 hk0' hx2 hlt2 hgm hq hkm hA2;go_upto_region 4 with fail
      go_cut [7,8,38] (fun a b t wc=>Below w.heap.size w wc∧t= .bool false)
      case first=>
       go_wp2_with fail
       obtain⟨b,hb0⟩: ∃b,wr.heap.size=b:=⟨_,rfl⟩;have hblk:=Blk.new wr 60 #[.string p.k,.string p.v];have hbel:=HB.out.alloc HB.out.size (.cells #[.string p.k,.string p.v] 60);have hold: ∀(x:Addr) u,wr.cell? x=some u→(wr.alloc (.cells #[.string p.k,.string p.v] 60)).cell? x=some u:=fun x u h=>(World.cell?_alloc_lt wr _ x (World.block_lt_of_cell? wr x h)).trans h;rw[hb0]at hblk⊢;generalize wr.alloc (.cells #[.string p.k,.string p.v] 60)=wq at*;have y0:wq.cell? ⟨b,0,none⟩=some (.string p.k):=hblk.cell 0;have y1:wq.cell? ⟨b,1,none⟩=some (.string p.v):=hblk.cell 1;have hD:Below w.heap.size w wq.drew:=⟨hbel.os,hbel.tape,hbel.output,hbel.size,hbel.block⟩;have HD:=Hd (And.intro hD (HT.out.below hD));have y2:wq.cell? (ad.add ((k-1)*2))=some (.string q):=hold _ _ d1;clear d1;clear hblk hbel hb0 hold hD c1 c2;refine region_late (fun w'=>w'.cell? ⟨b,0,none⟩=some (.string p.k)∧w'.cell? ⟨b,1,none⟩=some (.string p.v)∧w'.cell? (ad.add ((k-1)*2))=some (.string q)) [] (by kernel_rfl) ?_
       refine anyL_take1 (i:=0) (v:=.int .i64 kind) (o:=⟨some 16,_,_,_,_,_⟩) rfl (by kernel_rfl) (by kernel_rfl) (fun _ _ _ h=>h) (Or.inl ⟨by kernel_rfl,fun w' hS=>by(obtain⟨s0,s1,s2⟩:=hS;go_simp)⟩) ⟨y0,y1,y2⟩ ?_
       simp only[Act.put,List.setIfInBounds_toArray,List.set_cons_zero,List.set_cons_succ];refine anyL_take1 (i:=1) (v:=.pointer (some ⟨b,0,none⟩)) (o:=⟨some 17,_,_,_,_,_⟩) rfl (by kernel_rfl) (by kernel_rfl) (fun _ _ _ h=>h) (Or.inl ⟨by kernel_rfl,fun w' hS=>by(obtain⟨s0,s1,s2⟩:=hS;go_simp)⟩) ⟨y0,y1,y2⟩ ?_
       simp only[Act.put,List.setIfInBounds_toArray,List.set_cons_zero,List.set_cons_succ];refine anyL_take1 (i:=2) (v:=.string p.k) (o:=⟨some 18,_,_,_,_,_⟩) rfl (by kernel_rfl) (by kernel_rfl) (fun _ _ _ h=>h) (Or.inl ⟨by kernel_rfl,fun w' hS=>by(obtain⟨s0,s1,s2⟩:=hS;go_simp)⟩) ⟨y0,y1,y2⟩ ?_
       simp only[Act.put,List.setIfInBounds_toArray,List.set_cons_zero,List.set_cons_succ];refine anyL_take1 (i:=3) (v:=.pointer (some ⟨b,1,none⟩)) (o:=⟨some 19,_,_,_,_,_⟩) rfl (by kernel_rfl) (by kernel_rfl) (fun _ _ _ h=>h) (Or.inl ⟨by kernel_rfl,fun w' hS=>by(obtain⟨s0,s1,s2⟩:=hS;go_simp)⟩) ⟨y0,y1,y2⟩ ?_
       simp only[Act.put,List.setIfInBounds_toArray,List.set_cons_zero,List.set_cons_succ];refine anyL_take1 (i:=4) (v:=.string p.v) (o:=⟨some 20,_,_,_,_,_⟩) rfl (by kernel_rfl) (by kernel_rfl) (fun _ _ _ h=>h) (Or.inl ⟨by kernel_rfl,fun w' hS=>by(obtain⟨s0,s1,s2⟩:=hS;go_simp)⟩) ⟨y0,y1,y2⟩ ?_
       simp only[Act.put,List.setIfInBounds_toArray,List.set_cons_zero,List.set_cons_succ];refine anyL_take1 (i:=5) (v:=.agg #[.int .i64 kind,.string p.k,.string p.v]) (o:=⟨some 21,_,_,_,_,_⟩) rfl (by kernel_rfl) (by kernel_rfl) (fun _ _ _ h=>h) (Or.inl ⟨by kernel_rfl,fun w' hS=>by(obtain⟨s0,s1,s2⟩:=hS;go_simp)⟩) ⟨y0,y1,y2⟩ ?_
       simp only[Act.put,List.setIfInBounds_toArray,List.set_cons_zero,List.set_cons_succ];refine anyL_one (i:=6) (by kernel_rfl) rfl (fun K hK=>?_)
       go_simp;refine(HC.out _ HD.out.2).mono ?_;rintro e w1 ⟨rfl,b1⟩;have sS:=And.intro (keep_cell b1 y0) (And.intro (keep_cell b1 y1) (keep_cell b1 y2));refine hK.out _ _ (fun _=>sS) ?_;have HBB:=Hd (below_step HD.out.1 leR b1);clear b1 hK K;refine anyL_take1 (i:=7) (v:=.bool false) (o:=⟨some 23,_,_,_,_,_⟩) rfl (by kernel_rfl) (by kernel_rfl) (fun _ _ _ h=>h) (Or.inl ⟨by kernel_rfl,fun w' hS=>by(obtain⟨s0,s1,s2⟩:=hS;go_simp)⟩) sS ?_
       simp only[Act.put,List.setIfInBounds_toArray,List.set_cons_zero,List.set_cons_succ];refine anyL_take1 (i:=8) (v:=.bool false) (o:=⟨some 24,_,_,_,_,_⟩) rfl (by kernel_rfl) (by kernel_rfl) (fun _ _ _ h=>h) (Or.inl ⟨by kernel_rfl,fun w' hS=>by(obtain⟨s0,s1,s2⟩:=hS;go_simp)⟩) sS ?_
       simp only[Act.put,List.setIfInBounds_toArray,List.set_cons_zero,List.set_cons_succ];refine anyL_take1 (i:=9) (v:=.int .i64 (k:Nat)) (o:=⟨some 25,_,_,_,_,_⟩) rfl (by kernel_rfl) (by kernel_rfl) (fun _ _ _ h=>h) (Or.inl ⟨by kernel_rfl,fun w' hS=>by(obtain⟨s0,s1,s2⟩:=hS;go_simp)⟩) sS ?_
       simp only[Act.put,List.setIfInBounds_toArray,List.set_cons_zero,List.set_cons_succ];refine anyL_take1 (i:=10) (v:=.bool true) (o:=⟨some 26,_,_,_,_,_⟩) rfl (by kernel_rfl) (by kernel_rfl) (fun _ _ _ h=>h) (Or.inl ⟨by kernel_rfl,fun w' hS=>by(obtain⟨s0,s1,s2⟩:=hS;go_simp)⟩) sS ?_
       simp only[Act.put,List.setIfInBounds_toArray,List.set_cons_zero,List.set_cons_succ];refine anyL_take1 (i:=11) (v:=.bool true) (o:=⟨some 27,_,_,_,_,_⟩) rfl (by kernel_rfl) (by kernel_rfl) (fun _ _ _ h=>h) (Or.inl ⟨by kernel_rfl,fun w' hS=>by(obtain⟨s0,s1,s2⟩:=hS;go_simp)⟩) sS ?_
       simp only[Act.put,List.setIfInBounds_toArray,List.set_cons_zero,List.set_cons_succ];refine anyL_take1 (i:=12) (v:=.slice (some ad) n c) (o:=⟨some 28,_,_,_,_,_⟩) rfl (by kernel_rfl) (by kernel_rfl) (fun _ _ _ h=>h) (Or.inl ⟨by kernel_rfl,fun w' hS=>by(obtain⟨s0,s1,s2⟩:=hS;go_simp)⟩) sS ?_
       simp only[Act.put,List.setIfInBounds_toArray,List.set_cons_zero,List.set_cons_succ];refine anyL_take1 (i:=13) (v:=.int .i64 (k:Nat)) (o:=⟨some 29,_,_,_,_,_⟩) rfl (by kernel_rfl) (by kernel_rfl) (fun _ _ _ h=>h) (Or.inl ⟨by kernel_rfl,fun w' hS=>by(obtain⟨s0,s1,s2⟩:=hS;go_simp)⟩) sS ?_
       simp only[Act.put,List.setIfInBounds_toArray,List.set_cons_zero,List.set_cons_succ];refine anyL_take1 (i:=14) (v:=.int .i64 ((k:Int)-1)) (o:=⟨some 30,_,_,_,_,_⟩) rfl (by kernel_rfl) (by kernel_rfl) (fun _ _ _ h=>h) (Or.inl ⟨by kernel_rfl,fun w' hS=>by(obtain⟨s0,s1,s2⟩:=hS;go_simp)⟩) sS ?_
       simp only[Act.put,List.setIfInBounds_toArray,List.set_cons_zero,List.set_cons_succ];refine anyL_take1 (i:=15) (v:=.pointer (some (ad.add ((k-1)*2)))) (o:=⟨some 31,_,_,_,_,_⟩) rfl (by kernel_rfl) (by kernel_rfl) (fun _ _ _ h=>h) (Or.inl ⟨by kernel_rfl,fun w' hS=>by(obtain⟨s0,s1,s2⟩:=hS;go_simp)⟩) sS ?_
       simp only[Act.put,List.setIfInBounds_toArray,List.set_cons_zero,List.set_cons_succ];refine anyL_take1 (i:=16) (v:=.pointer (some (ad.add ((k-1)*2)))) (o:=⟨some 32,_,_,_,_,_⟩) rfl (by kernel_rfl) (by kernel_rfl) (fun _ _ _ h=>h) (Or.inl ⟨by kernel_rfl,fun w' hS=>by(obtain⟨s0,s1,s2⟩:=hS;go_simp)⟩) sS ?_
       simp only[Act.put,List.setIfInBounds_toArray,List.set_cons_zero,List.set_cons_succ];refine anyL_take1 (i:=17) (v:=.string q) (o:=⟨some 33,_,_,_,_,_⟩) rfl (by kernel_rfl) (by kernel_rfl) (fun _ _ _ h=>h) (Or.inl ⟨by kernel_rfl,fun w' hS=>by(obtain⟨s0,s1,s2⟩:=hS;go_simp)⟩) sS ?_
       simp only[Act.put,List.setIfInBounds_toArray,List.set_cons_zero,List.set_cons_succ];refine anyL_take1 (i:=18) (v:=.pointer (some ⟨b,0,none⟩)) (o:=⟨some 34,_,_,_,_,_⟩) rfl (by kernel_rfl) (by kernel_rfl) (fun _ _ _ h=>h) (Or.inl ⟨by kernel_rfl,fun w' hS=>by(obtain⟨s0,s1,s2⟩:=hS;go_simp)⟩) sS ?_
       simp only[Act.put,List.setIfInBounds_toArray,List.set_cons_zero,List.set_cons_succ];refine anyL_take1 (i:=19) (v:=.string p.k) (o:=⟨some 35,_,_,_,_,_⟩) rfl (by kernel_rfl) (by kernel_rfl) (fun _ _ _ h=>h) (Or.inl ⟨by kernel_rfl,fun w' hS=>by(obtain⟨s0,s1,s2⟩:=hS;go_simp)⟩) sS ?_
       simp only[Act.put,List.setIfInBounds_toArray,List.set_cons_zero,List.set_cons_succ];refine anyL_take1 (i:=20) (v:=.bool false) (o:=⟨some 36,_,_,_,_,_⟩) rfl (by kernel_rfl) (by kernel_rfl) (fun _ _ _ h=>h) (Or.inl ⟨by kernel_rfl,fun w' hS=>by(obtain⟨s0,s1,s2⟩:=hS;go_simp)⟩) sS ?_
       simp only[Act.put,List.setIfInBounds_toArray,List.set_cons_zero,List.set_cons_succ];refine anyL_take1 (i:=21) (v:=.bool false) (o:=⟨some 37,_,_,_,_,_⟩) rfl (by kernel_rfl) (by kernel_rfl) (fun _ _ _ h=>h) (Or.inl ⟨by kernel_rfl,fun w' hS=>by(obtain⟨s0,s1,s2⟩:=hS;go_simp)⟩) sS ?_
       simp only[Act.put,List.setIfInBounds_toArray,List.set_cons_zero,List.set_cons_succ];refine anyL_take1 (i:=22) (v:=.bool false) (o:=⟨some 38,_,_,_,_,_⟩) rfl (by kernel_rfl) (by kernel_rfl) (fun _ _ _ h=>h) (Or.inl ⟨by kernel_rfl,fun w' hS=>by(obtain⟨s0,s1,s2⟩:=hS;go_simp)⟩) sS ?_
       simp only[Act.put,List.setIfInBounds_toArray,List.set_cons_zero,List.set_cons_succ];refine anyL_done (by kernel_rfl) ?_ _
       clear sS;go_wp2_with fail
       go_meet;exact⟨HBB.out,rfl⟩
      case rest=>
       obtain⟨hbc,rfl⟩:=hcut;have HBC:=Hd hbc;clear hbc;go_wp2_with fail
       go_roundw
       case rel=>exact⟨k+1,by omega,by go_num,Hd (fun j hj=>(Nat.lt_succ_iff_lt_or_eq.1 hj).elim (fun h=>HG.out j h) (fun h=>h▸HXX.out)),HBC.out⟩
       case measure=>simp[intOf];omega
     |false=>
      have HXX:=Hd (show pairB kind l k=false by rw[hx2,hlt2];rfl)
      have e1:Op.bytesLess q.toList p.k.toList=false:=hlt2;clear hE0 hk0 hk0' hx2 hlt2 hgm hq hkm hA2;go_upto_region 4 with fail
      go_cut [7,8,38] (fun a b t wc=>Below w.heap.size w wc∧t= .bool true)
      case first=>
       go_wp2_with fail
       obtain⟨b,hb0⟩: ∃b,wr.heap.size=b:=⟨_,rfl⟩;have hblk:=Blk.new wr 60 #[.string p.k,.string p.v];have hbel:=HB.out.alloc HB.out.size (.cells #[.string p.k,.string p.v] 60);have hold: ∀(x:Addr) u,wr.cell? x=some u→(wr.alloc (.cells #[.string p.k,.string p.v] 60)).cell? x=some u:=fun x u h=>(World.cell?_alloc_lt wr _ x (World.block_lt_of_cell? wr x h)).trans h;rw[hb0]at hblk⊢;generalize wr.alloc (.cells #[.string p.k,.string p.v] 60)=wq at*;have y0:wq.cell? ⟨b,0,none⟩=some (.string p.k):=hblk.cell 0;have y1:wq.cell? ⟨b,1,none⟩=some (.string p.v):=hblk.cell 1;have hD:Below w.heap.size w wq.drew:=⟨hbel.os,hbel.tape,hbel.output,hbel.size,hbel.block⟩;have HD:=Hd (And.intro hD (HT.out.below hD));have y2:wq.cell? (ad.add ((k-1)*2))=some (.string q):=hold _ _ d1;clear d1;clear hblk hbel hb0 hold hD c1 c2;refine region_late (fun w'=>w'.cell? ⟨b,0,none⟩=some (.string p.k)∧w'.cell? ⟨b,1,none⟩=some (.string p.v)∧w'.cell? (ad.add ((k-1)*2))=some (.string q)) [] (by kernel_rfl) ?_
       refine anyL_take1 (i:=0) (v:=.int .i64 kind) (o:=⟨some 16,_,_,_,_,_⟩) rfl (by kernel_rfl) (by kernel_rfl) (fun _ _ _ h=>h) (Or.inl ⟨by kernel_rfl,fun w' hS=>by(obtain⟨s0,s1,s2⟩:=hS;go_simp)⟩) ⟨y0,y1,y2⟩ ?_
       simp only[Act.put,List.setIfInBounds_toArray,List.set_cons_zero,List.set_cons_succ];refine anyL_take1 (i:=1) (v:=.pointer (some ⟨b,0,none⟩)) (o:=⟨some 17,_,_,_,_,_⟩) rfl (by kernel_rfl) (by kernel_rfl) (fun _ _ _ h=>h) (Or.inl ⟨by kernel_rfl,fun w' hS=>by(obtain⟨s0,s1,s2⟩:=hS;go_simp)⟩) ⟨y0,y1,y2⟩ ?_
       simp only[Act.put,List.setIfInBounds_toArray,List.set_cons_zero,List.set_cons_succ];refine anyL_take1 (i:=2) (v:=.string p.k) (o:=⟨some 18,_,_,_,_,_⟩) rfl (by kernel_rfl) (by kernel_rfl) (fun _ _ _ h=>h) (Or.inl ⟨by kernel_rfl,fun w' hS=>by(obtain⟨s0,s1,s2⟩:=hS;go_simp)⟩) ⟨y0,y1,y2⟩ ?_
       simp only[Act.put,List.setIfInBounds_toArray,List.set_cons_zero,List.set_cons_succ];refine anyL_take1 (i:=3) (v:=.pointer (some ⟨b,1,none⟩)) (o:=⟨some 19,_,_,_,_,_⟩) rfl (by kernel_rfl) (by kernel_rfl) (fun _ _ _ h=>h) (Or.inl ⟨by kernel_rfl,fun w' hS=>by(obtain⟨s0,s1,s2⟩:=hS;go_simp)⟩) ⟨y0,y1,y2⟩ ?_
       simp only[Act.put,List.setIfInBounds_toArray,List.set_cons_zero,List.set_cons_succ];refine anyL_take1 (i:=4) (v:=.string p.v) (o:=⟨some 20,_,_,_,_,_⟩) rfl (by kernel_rfl) (by kernel_rfl) (fun _ _ _ h=>h) (Or.inl ⟨by kernel_rfl,fun w' hS=>by(obtain⟨s0,s1,s2⟩:=hS;go_simp)⟩) ⟨y0,y1,y2⟩ ?_
       simp only[Act.put,List.setIfInBounds_toArray,List.set_cons_zero,List.set_cons_succ];refine anyL_take1 (i:=5) (v:=.agg #[.int .i64 kind,.string p.k,.string p.v]) (o:=⟨some 21,_,_,_,_,_⟩) rfl (by kernel_rfl) (by kernel_rfl) (fun _ _ _ h=>h) (Or.inl ⟨by kernel_rfl,fun w' hS=>by(obtain⟨s0,s1,s2⟩:=hS;go_simp)⟩) ⟨y0,y1,y2⟩ ?_
       simp only[Act.put,List.setIfInBounds_toArray,List.set_cons_zero,List.set_cons_succ];refine anyL_one (i:=6) (by kernel_rfl) rfl (fun K hK=>?_)
       go_simp;refine(HC.out _ HD.out.2).mono ?_;rintro e w1 ⟨rfl,b1⟩;have sS:=And.intro (keep_cell b1 y0) (And.intro (keep_cell b1 y1) (keep_cell b1 y2));refine hK.out _ _ (fun _=>sS) ?_;have HBB:=Hd (below_step HD.out.1 leR b1);clear b1 hK K;refine anyL_take1 (i:=7) (v:=.bool false) (o:=⟨some 23,_,_,_,_,_⟩) rfl (by kernel_rfl) (by kernel_rfl) (fun _ _ _ h=>h) (Or.inl ⟨by kernel_rfl,fun w' hS=>by(obtain⟨s0,s1,s2⟩:=hS;go_simp)⟩) sS ?_
       simp only[Act.put,List.setIfInBounds_toArray,List.set_cons_zero,List.set_cons_succ];refine anyL_take1 (i:=8) (v:=.bool false) (o:=⟨some 24,_,_,_,_,_⟩) rfl (by kernel_rfl) (by kernel_rfl) (fun _ _ _ h=>h) (Or.inl ⟨by kernel_rfl,fun w' hS=>by(obtain⟨s0,s1,s2⟩:=hS;go_simp)⟩) sS ?_
       simp only[Act.put,List.setIfInBounds_toArray,List.set_cons_zero,List.set_cons_succ];refine anyL_take1 (i:=9) (v:=.int .i64 (k:Nat)) (o:=⟨some 25,_,_,_,_,_⟩) rfl (by kernel_rfl) (by kernel_rfl) (fun _ _ _ h=>h) (Or.inl ⟨by kernel_rfl,fun w' hS=>by(obtain⟨s0,s1,s2⟩:=hS;go_simp)⟩) sS ?_
       simp only[Act.put,List.setIfInBounds_toArray,List.set_cons_zero,List.set_cons_succ];refine anyL_take1 (i:=10) (v:=.bool true) (o:=⟨some 26,_,_,_,_,_⟩) rfl (by kernel_rfl) (by kernel_rfl) (fun _ _ _ h=>h) (Or.inl ⟨by kernel_rfl,fun w' hS=>by(obtain⟨s0,s1,s2⟩:=hS;go_simp)⟩) sS ?_
       simp only[Act.put,List.setIfInBounds_toArray,List.set_cons_zero,List.set_cons_succ];refine anyL_take1 (i:=11) (v:=.bool true) (o:=⟨some 27,_,_,_,_,_⟩) rfl (by kernel_rfl) (by kernel_rfl) (fun _ _ _ h=>h) (Or.inl ⟨by kernel_rfl,fun w' hS=>by(obtain⟨s0,s1,s2⟩:=hS;go_simp)⟩) sS ?_
       simp only[Act.put,List.setIfInBounds_toArray,List.set_cons_zero,List.set_cons_succ];refine anyL_take1 (i:=12) (v:=.slice (some ad) n c) (o:=⟨some 28,_,_,_,_,_⟩) rfl (by kernel_rfl) (by kernel_rfl) (fun _ _ _ h=>h) (Or.inl ⟨by kernel_rfl,fun w' hS=>by(obtain⟨s0,s1,s2⟩:=hS;go_simp)⟩) sS ?_
       simp only[Act.put,List.setIfInBounds_toArray,List.set_cons_zero,List.set_cons_succ];refine anyL_take1 (i:=13) (v:=.int .i64 (k:Nat)) (o:=⟨some 29,_,_,_,_,_⟩) rfl (by kernel_rfl) (by kernel_rfl) (fun _ _ _ h=>h) (Or.inl ⟨by kernel_rfl,fun w' hS=>by(obtain⟨s0,s1,s2⟩:=hS;go_simp)⟩) sS ?_
       simp only[Act.put,List.setIfInBounds_toArray,List.set_cons_zero,List.set_cons_succ];refine anyL_take1 (i:=14) (v:=.int .i64 ((k:Int)-1)) (o:=⟨some 30,_,_,_,_,_⟩) rfl (by kernel_rfl) (by kernel_rfl) (fun _ _ _ h=>h) (Or.inl ⟨by kernel_rfl,fun w' hS=>by(obtain⟨s0,s1,s2⟩:=hS;go_simp)⟩) sS ?_
       simp only[Act.put,List.setIfInBounds_toArray,List.set_cons_zero,List.set_cons_succ];refine anyL_take1 (i:=15) (v:=.pointer (some (ad.add ((k-1)*2)))) (o:=⟨some 31,_,_,_,_,_⟩) rfl (by kernel_rfl) (by kernel_rfl) (fun _ _ _ h=>h) (Or.inl ⟨by kernel_rfl,fun w' hS=>by(obtain⟨s0,s1,s2⟩:=hS;go_simp)⟩) sS ?_
       simp only[Act.put,List.setIfInBounds_toArray,List.set_cons_zero,List.set_cons_succ];refine anyL_take1 (i:=16) (v:=.pointer (some (ad.add ((k-1)*2)))) (o:=⟨some 32,_,_,_,_,_⟩) rfl (by kernel_rfl) (by kernel_rfl) (fun _ _ _ h=>h) (Or.inl ⟨by kernel_rfl,fun w' hS=>by(obtain⟨s0,s1,s2⟩:=hS;go_simp)⟩) sS ?_
       simp only[Act.put,List.setIfInBounds_toArray,List.set_cons_zero,List.set_cons_succ];refine anyL_take1 (i:=17) (v:=.string q) (o:=⟨some 33,_,_,_,_,_⟩) rfl (by kernel_rfl) (by kernel_rfl) (fun _ _ _ h=>h) (Or.inl ⟨by kernel_rfl,fun w' hS=>by(obtain⟨s0,s1,s2⟩:=hS;go_simp)⟩) sS ?_
       simp only[Act.put,List.setIfInBounds_toArray,List.set_cons_zero,List.set_cons_succ];refine anyL_take1 (i:=18) (v:=.pointer (some ⟨b,0,none⟩)) (o:=⟨some 34,_,_,_,_,_⟩) rfl (by kernel_rfl) (by kernel_rfl) (fun _ _ _ h=>h) (Or.inl ⟨by kernel_rfl,fun w' hS=>by(obtain⟨s0,s1,s2⟩:=hS;go_simp)⟩) sS ?_
       simp only[Act.put,List.setIfInBounds_toArray,List.set_cons_zero,List.set_cons_succ];refine anyL_take1 (i:=19) (v:=.string p.k) (o:=⟨some 35,_,_,_,_,_⟩) rfl (by kernel_rfl) (by kernel_rfl) (fun _ _ _ h=>h) (Or.inl ⟨by kernel_rfl,fun w' hS=>by(obtain⟨s0,s1,s2⟩:=hS;go_simp)⟩) sS ?_
       simp only[Act.put,List.setIfInBounds_toArray,List.set_cons_zero,List.set_cons_succ];refine anyL_take1 (i:=20) (v:=.bool true) (o:=⟨some 36,_,_,_,_,_⟩) rfl (by kernel_rfl) (by kernel_rfl) (fun _ _ _ h=>h) (Or.inl ⟨by kernel_rfl,fun w' hS=>by(obtain⟨s0,s1,s2⟩:=hS;go_simp)⟩) sS ?_
       simp only[Act.put,List.setIfInBounds_toArray,List.set_cons_zero,List.set_cons_succ];refine anyL_take1 (i:=21) (v:=.bool true) (o:=⟨some 37,_,_,_,_,_⟩) rfl (by kernel_rfl) (by kernel_rfl) (fun _ _ _ h=>h) (Or.inl ⟨by kernel_rfl,fun w' hS=>by(obtain⟨s0,s1,s2⟩:=hS;go_simp)⟩) sS ?_
       simp only[Act.put,List.setIfInBounds_toArray,List.set_cons_zero,List.set_cons_succ];refine anyL_take1 (i:=22) (v:=.bool true) (o:=⟨some 38,_,_,_,_,_⟩) rfl (by kernel_rfl) (by kernel_rfl) (fun _ _ _ h=>h) (Or.inl ⟨by kernel_rfl,fun w' hS=>by(obtain⟨s0,s1,s2⟩:=hS;go_simp)⟩) sS ?_
       simp only[Act.put,List.setIfInBounds_toArray,List.set_cons_zero,List.set_cons_succ];refine anyL_done (by kernel_rfl) ?_ _
       clear sS;go_wp2_with fail
       go_meet;exact⟨HBB.out,rfl⟩
      case rest=>
       obtain⟨hbc,rfl⟩:=hcut;have hfin:B=false:=by rw[←HB0.out];exact pairsB_no hkl HXX.out
       have HFI:=Hd hfin;have HBC:=Hd hbc;clear hbc hfin;go_wp2_with fail
       go_ret;exact⟨by rw[HFI.out];rfl,HBC.out⟩
   ·have e0:(E !=0)=true:=by simp[hE0]
    have HXX:=Hd (show pairB kind l k=false by rw[HX.out];simp[hE0])
    clear hE0;go_upto_region 4 with fail
    go_cut [7,8,38] (fun a b t wc=>Below w.heap.size w wc∧t= .bool true)
    case first=>
     go_wp2_with fail
     obtain⟨b,hb0⟩: ∃b,wr.heap.size=b:=⟨_,rfl⟩;have hblk:=Blk.new wr 60 #[.string p.k,.string p.v];have hbel:=HB.out.alloc HB.out.size (.cells #[.string p.k,.string p.v] 60);have hold: ∀(x:Addr) u,wr.cell? x=some u→(wr.alloc (.cells #[.string p.k,.string p.v] 60)).cell? x=some u:=fun x u h=>(World.cell?_alloc_lt wr _ x (World.block_lt_of_cell? wr x h)).trans h;rw[hb0]at hblk⊢;generalize wr.alloc (.cells #[.string p.k,.string p.v] 60)=wq at*;have y0:wq.cell? ⟨b,0,none⟩=some (.string p.k):=hblk.cell 0;have y1:wq.cell? ⟨b,1,none⟩=some (.string p.v):=hblk.cell 1;have hD:Below w.heap.size w wq.drew:=⟨hbel.os,hbel.tape,hbel.output,hbel.size,hbel.block⟩;have HD:=Hd (And.intro hD (HT.out.below hD));clear hblk hbel hb0 hold hD c1 c2;refine region_late (fun w'=>w'.cell? ⟨b,0,none⟩=some (.string p.k)∧w'.cell? ⟨b,1,none⟩=some (.string p.v)) [] (by kernel_rfl) ?_
     refine anyL_take1 (i:=0) (v:=.int .i64 kind) (o:=⟨some 16,_,_,_,_,_⟩) rfl (by kernel_rfl) (by kernel_rfl) (fun _ _ _ h=>h) (Or.inl ⟨by kernel_rfl,fun w' hS=>by(obtain⟨s0,s1⟩:=hS;go_simp)⟩) ⟨y0,y1⟩ ?_
     simp only[Act.put,List.setIfInBounds_toArray,List.set_cons_zero,List.set_cons_succ];refine anyL_take1 (i:=1) (v:=.pointer (some ⟨b,0,none⟩)) (o:=⟨some 17,_,_,_,_,_⟩) rfl (by kernel_rfl) (by kernel_rfl) (fun _ _ _ h=>h) (Or.inl ⟨by kernel_rfl,fun w' hS=>by(obtain⟨s0,s1⟩:=hS;go_simp)⟩) ⟨y0,y1⟩ ?_
     simp only[Act.put,List.setIfInBounds_toArray,List.set_cons_zero,List.set_cons_succ];refine anyL_take1 (i:=2) (v:=.string p.k) (o:=⟨some 18,_,_,_,_,_⟩) rfl (by kernel_rfl) (by kernel_rfl) (fun _ _ _ h=>h) (Or.inl ⟨by kernel_rfl,fun w' hS=>by(obtain⟨s0,s1⟩:=hS;go_simp)⟩) ⟨y0,y1⟩ ?_
     simp only[Act.put,List.setIfInBounds_toArray,List.set_cons_zero,List.set_cons_succ];refine anyL_take1 (i:=3) (v:=.pointer (some ⟨b,1,none⟩)) (o:=⟨some 19,_,_,_,_,_⟩) rfl (by kernel_rfl) (by kernel_rfl) (fun _ _ _ h=>h) (Or.inl ⟨by kernel_rfl,fun w' hS=>by(obtain⟨s0,s1⟩:=hS;go_simp)⟩) ⟨y0,y1⟩ ?_
     simp only[Act.put,List.setIfInBounds_toArray,List.set_cons_zero,List.set_cons_succ];refine anyL_take1 (i:=4) (v:=.string p.v) (o:=⟨some 20,_,_,_,_,_⟩) rfl (by kernel_rfl) (by kernel_rfl) (fun _ _ _ h=>h) (Or.inl ⟨by kernel_rfl,fun w' hS=>by(obtain⟨s0,s1⟩:=hS;go_simp)⟩) ⟨y0,y1⟩ ?_
     simp only[Act.put,List.setIfInBounds_toArray,List.set_cons_zero,List.set_cons_succ];refine anyL_take1 (i:=5) (v:=.agg #[.int .i64 kind,.string p.k,.string p.v]) (o:=⟨some 21,_,_,_,_,_⟩) rfl (by kernel_rfl) (by kernel_rfl) (fun _ _ _ h=>h) (Or.inl ⟨by kernel_rfl,fun w' hS=>by(obtain⟨s0,s1⟩:=hS;go_simp)⟩) ⟨y0,y1⟩ ?_
     simp only[Act.put,List.setIfInBounds_toArray,List.set_cons_zero,List.set_cons_succ];refine anyL_one (i:=6) (by kernel_rfl) rfl (fun K hK=>?_)
     go_simp;refine(HC.out _ HD.out.2).mono ?_;rintro e w1 ⟨rfl,b1⟩;have sS:=And.intro (keep_cell b1 y0) (keep_cell b1 y1);refine hK.out _ _ (fun _=>sS) ?_;have HBB:=Hd (below_step HD.out.1 leR b1);clear b1 hK K;refine anyL_take1 (i:=7) (v:=.bool true) (o:=⟨some 23,_,_,_,_,_⟩) rfl (by kernel_rfl) (by kernel_rfl) (fun _ _ _ h=>h) (Or.inl ⟨by kernel_rfl,fun w' hS=>by(obtain⟨s0,s1⟩:=hS;go_simp)⟩) sS ?_
     simp only[Act.put,List.setIfInBounds_toArray,List.set_cons_zero,List.set_cons_succ];refine anyL_take1 (i:=8) (v:=.bool true) (o:=⟨some 24,_,_,_,_,_⟩) rfl (by kernel_rfl) (by kernel_rfl) (fun _ _ _ h=>h) (Or.inl ⟨by kernel_rfl,fun w' hS=>by(obtain⟨s0,s1⟩:=hS;go_simp)⟩) sS ?_
     simp only[Act.put,List.setIfInBounds_toArray,List.set_cons_zero,List.set_cons_succ];refine anyL_take1 (i:=9) (v:=undef) (o:=⟨some 25,_,_,_,_,_⟩) rfl (by kernel_rfl) (by kernel_rfl) (fun _ _ _ h=>h) (Or.inr ⟨by kernel_rfl,rfl⟩) sS ?_
     simp only[Act.put,List.setIfInBounds_toArray,List.set_cons_zero,List.set_cons_succ];refine anyL_take1 (i:=10) (v:=undef) (o:=⟨some 26,_,_,_,_,_⟩) rfl (by kernel_rfl) (by kernel_rfl) (fun _ _ _ h=>h) (Or.inr ⟨by kernel_rfl,rfl⟩) sS ?_
     simp only[Act.put,List.setIfInBounds_toArray,List.set_cons_zero,List.set_cons_succ];refine anyL_take1 (i:=11) (v:=undef) (o:=⟨some 27,_,_,_,_,_⟩) rfl (by kernel_rfl) (by kernel_rfl) (fun _ _ _ h=>h) (Or.inr ⟨by kernel_rfl,rfl⟩) sS ?_
     simp only[Act.put,List.setIfInBounds_toArray,List.set_cons_zero,List.set_cons_succ];refine anyL_take1 (i:=12) (v:=undef) (o:=⟨some 28,_,_,_,_,_⟩) rfl (by kernel_rfl) (by kernel_rfl) (fun _ _ _ h=>h) (Or.inr ⟨by kernel_rfl,rfl⟩) sS ?_
     simp only[Act.put,List.setIfInBounds_toArray,List.set_cons_zero,List.set_cons_succ];refine anyL_take1 (i:=13) (v:=undef) (o:=⟨some 29,_,_,_,_,_⟩) rfl (by kernel_rfl) (by kernel_rfl) (fun _ _ _ h=>h) (Or.inr ⟨by kernel_rfl,rfl⟩) sS ?_
     simp only[Act.put,List.setIfInBounds_toArray,List.set_cons_zero,List.set_cons_succ];refine anyL_take1 (i:=14) (v:=undef) (o:=⟨some 30,_,_,_,_,_⟩) rfl (by kernel_rfl) (by kernel_rfl) (fun _ _ _ h=>h) (Or.inr ⟨by kernel_rfl,rfl⟩) sS ?_
     simp only[Act.put,List.setIfInBounds_toArray,List.set_cons_zero,List.set_cons_succ];refine anyL_take1 (i:=15) (v:=undef) (o:=⟨some 31,_,_,_,_,_⟩) rfl (by kernel_rfl) (by kernel_rfl) (fun _ _ _ h=>h) (Or.inr ⟨by kernel_rfl,rfl⟩) sS ?_
     simp only[Act.put,List.setIfInBounds_toArray,List.set_cons_zero,List.set_cons_succ];refine anyL_take1 (i:=16) (v:=undef) (o:=⟨some 32,_,_,_,_,_⟩) rfl (by kernel_rfl) (by kernel_rfl) (fun _ _ _ h=>h) (Or.inr ⟨by kernel_rfl,rfl⟩) sS ?_
     simp only[Act.put,List.setIfInBounds_toArray,List.set_cons_zero,List.set_cons_succ];refine anyL_take1 (i:=17) (v:=undef) (o:=⟨some 33,_,_,_,_,_⟩) rfl (by kernel_rfl) (by kernel_rfl) (fun _ _ _ h=>h) (Or.inr ⟨by kernel_rfl,rfl⟩) sS ?_
     simp only[Act.put,List.setIfInBounds_toArray,List.set_cons_zero,List.set_cons_succ];refine anyL_take1 (i:=18) (v:=undef) (o:=⟨some 34,_,_,_,_,_⟩) rfl (by kernel_rfl) (by kernel_rfl) (fun _ _ _ h=>h) (Or.inr ⟨by kernel_rfl,rfl⟩) sS ?_
     simp only[Act.put,List.setIfInBounds_toArray,List.set_cons_zero,List.set_cons_succ];refine anyL_take1 (i:=19) (v:=undef) (o:=⟨some 35,_,_,_,_,_⟩) rfl (by kernel_rfl) (by kernel_rfl) (fun _ _ _ h=>h) (Or.inr ⟨by kernel_rfl,rfl⟩) sS ?_
     simp only[Act.put,List.setIfInBounds_toArray,List.set_cons_zero,List.set_cons_succ];refine anyL_take1 (i:=20) (v:=undef) (o:=⟨some 36,_,_,_,_,_⟩) rfl (by kernel_rfl) (by kernel_rfl) (fun _ _ _ h=>h) (Or.inr ⟨by kernel_rfl,rfl⟩) sS ?_
     simp only[Act.put,List.setIfInBounds_toArray,List.set_cons_zero,List.set_cons_succ];refine anyL_take1 (i:=21) (v:=undef) (o:=⟨some 37,_,_,_,_,_⟩) rfl (by kernel_rfl) (by kernel_rfl) (fun _ _ _ h=>h) (Or.inr ⟨by kernel_rfl,rfl⟩) sS ?_
     simp only[Act.put,List.setIfInBounds_toArray,List.set_cons_zero,List.set_cons_succ];refine anyL_take1 (i:=22) (v:=.bool true) (o:=⟨some 38,_,_,_,_,_⟩) rfl (by kernel_rfl) (by kernel_rfl) (fun _ _ _ h=>h) (Or.inl ⟨by kernel_rfl,fun w' hS=>by(obtain⟨s0,s1⟩:=hS;go_simp)⟩) sS ?_
     simp only[Act.put,List.setIfInBounds_toArray,List.set_cons_zero,List.set_cons_succ];refine anyL_done (by kernel_rfl) ?_ _
     clear sS;go_wp2_with fail
     go_meet;exact⟨HBB.out,rfl⟩
    case rest=>
     obtain⟨hbc,rfl⟩:=hcut;have hfin:B=false:=by rw[←HB0.out];exact pairsB_no hkl HXX.out
     have HFI:=Hd hfin;have HBC:=Hd hbc;clear hbc hfin;go_wp2_with fail
     go_ret;exact⟨by rw[HFI.out];rfl,HBC.out⟩
  ·obtain rfl:k=n:=by omega
   have hfin:B=decide (k≤most):=by rw[←HB0.out,pairsB_yes (fun j hj=>HG.out j (by rw[←HN.out];exact hj)),HN.out]
   have HFI:=Hd hfin;have HBC:=Hd hb;clear hb hfin;by_cases hle:k≤most
   ·have g1:(k:Int)≤(most:Int):=by omega
    go_wp2_with fail
    go_ret;exact⟨by rw[HFI.out];simp[hle],HBC.out⟩
   ·have g1:(most:Int)<(k:Int):=by omega
    go_wp2_with fail
    go_ret;exact⟨by rw[HFI.out];simp[hle],HBC.out⟩
end Go.Proofs.YtjbnfigpflambacGreatDoor
