/- (pool).do. Conditions: those of each lemma. -/
import Derived.Test.YtjbnfigpflambacGreatDoorH03
import Derived.Test.YtjbnfigpflambacGreatDoorH22
namespace Go.Proofs.YtjbnfigpflambacGreatDoor
set_option maxRecDepth 100000
set_option maxHeartbeats 16000000
open _root_.Go.Proofs.Tryz
open Go.ChangeShapes Go.WideShapes Go.ChangeAt Go.RowKit
structure TabB(w:World)(B:Nat):Prop where
 tabs:Tabs w
 l1:0<B
 l2:1<B
theorem TabB.start{w:World}(h:Tabs w):TabB w w.heap.size:=by
 obtain⟨m,hm⟩:=h.maxLen;exact⟨h,World.block_lt_of_cell? w _ (h.words 0 (by decide)),World.block_lt_of_cell? w _ hm⟩
theorem TabB.bel{w w':World}{B:Nat}(h:TabB w B)(hb:Below B w w'):TabB w' B:=by
 refine⟨⟨fun i hi=>?_,?_⟩,h.l1,h.l2⟩
 ·exact(hb.cell (by exact h.l1)).trans (h.tabs.words i hi)
 ·obtain⟨m,hm⟩:=h.tabs.maxLen;exact⟨m,(hb.cell (by exact h.l2)).trans hm⟩
theorem PoolO.leB{w:World}{B p:Nat}{V:PV}{ks:List KV}{M:MV}(h:PoolO w B p V ks M):B≤w.heap.size:=by
 obtain⟨cs,hb⟩:=h.blk;exact Nat.le_of_lt (Nat.lt_of_le_of_lt h.lb hb.lt)
theorem TabB.turn{w w':World}{B p:Nat}{V V':PV}{ks:List KV}{M:MV}(h:TabB w B)(r:PoolO w B p V ks M)(t:Turn p w V w' V'):TabB w' B:=h.bel (t.bel r.leB fun _ hk=>(r.lt hk).1)
theorem TabB.below{w w':World}{B:Nat}(h:TabB w B)(hB:B≤w.heap.size)(hb:Below w.heap.size w w'):TabB w' B:=h.bel (hb.mono hB)
theorem PoolR.wl{w:World}{B p:Nat}{V:PV}{ks:List KV}{M:MV}(h:PoolR w B p V ks M)(h8:M.w.ses.length≤1000){u:World}(hb:Below w.heap.size w u):WL u u.heap.size V.rows V.ses M.w:=by
 obtain⟨cs,o2⟩:=h.o.ses;exact⟨(h.o.rows.keeps (.of_below hb)).pl,(osl_keeps o2 (.of_below hb) (.of_below hb)).sl (by omega)⟩
theorem PoolR.kp{w:World}{B p:Nat}{V:PV}{ks:List KV}{M:MV}(h:PoolR w B p V ks M)(j:Nat)(x:Value){t:TypeId}(ht: ∀r:Role,r.ty≠t):Keeps t w (w.setCell ⟨p,j,none⟩ x):=by
 obtain⟨cs,hb,_⟩:=h.b.blk;exact Keeps.set_ (p:=⟨p,j,none⟩) (show w.heap[p]? =some (.cells cs 101 (0,0))from hb) (ht .pool) x
def poR(W:Wo)(s:Int)(x:St):Wo × An:=if doE W s x=0 then doW W s.toNat x else(W,⟨4,tLost,0⟩)
theorem pdo_any(w:World)(B p:Nat)(V:PV)(ks:List KV)(M:MV)(h:PoolR w B p V ks M)(hT:TabB w B)(s:Int)(hs:(Lit.int .i64 s).wf=true)(x:St)(hx:x.key.size≤maxLen∧x.val.size≤maxLen)(h8:M.w.ses.length≤1000):
  Calls Tryz.prog 70 #[.pointer (some ⟨p,0,none⟩),.int .i64 s,.agg #[.int .i64 x.k,.string x.key,.string x.val]] w
   fun e w'=>e= .returned (anV (poR M.w s x).2)∧Done w B p V {M with w:=(poR M.w s x).1} w':=by
 obtain⟨xk,key,val⟩:=x;obtain⟨Rz,hRz⟩: ∃R,poR M.w s ⟨xk,key,val⟩=R:=⟨_,rfl⟩;rw[hRz];have HRZ:=Hd hRz;have HX:=Hd hx;have HT:=Hd hT;have H8:=Hd h8;have HI:=Hd hs;have HR:=Hd h;obtain⟨q,hq⟩: ∃q,w.heap.size=q:=⟨_,rfl⟩;have HQ:=Hd hq;have hp:=h.b.lt;have HP:=Hd hp;clear hRz hx hs hT h8 h hp;go_enter func70,ntmps70
 go_upto_region 1 with fail
 have r1:=HR.out.below (boxed2 w (.cells #[.int .i64 xk,.string key,.string val] 41) (.cells #[.int .i64 0,.string ⟨#[]⟩,.int .i64 0] 46));have tb1:=HT.out.below HR.out.o.leB (boxed2 w (.cells #[.int .i64 xk,.string key,.string val] 41) (.cells #[.int .i64 0,.string ⟨#[]⟩,.int .i64 0] 46));have T1:=Hd ((Turn.refl p w V).below (boxed2 w (.cells #[.int .i64 xk,.string key,.string val] 41) (.cells #[.int .i64 0,.string ⟨#[]⟩,.int .i64 0] 46)));have bx:=(Blk.new w 41 #[.int .i64 xk,.string key,.string val]).alloc (.cells #[.int .i64 0,.string ⟨#[]⟩,.int .i64 0] 46);have ba:=Blk.new1 w (.cells #[.int .i64 xk,.string key,.string val] 41) 46 #[.int .i64 0,.string ⟨#[]⟩,.int .i64 0];rw[hq]at bx ba;obtain⟨A0,k0,e0⟩:=HR.out.o.rows.form;obtain⟨A9,k9,e9⟩: ∃A k,V.ses= .slice A M.w.ses.length k:=by
  obtain⟨cs,o⟩:=HR.out.o.ses;exact own_slice o.own
 have hqp1:q+1≠p:=by have:=HP.out;omega
 clear hq;generalize World.alloc _ _=x1 at r1 tb1 T1 bx ba⊢;have R1:=Hd r1;have TB1:=Hd tb1;have BA:=Hd ba;have b0:=bx.cell_ 0 _ rfl;have b1:=bx.cell_ 1 _ rfl;have b2:=bx.cell_ 2 _ rfl;have y2:x1.cell? ⟨p,2,none⟩=some V.rows:=r1.b.cell (j:=2) (by decide)
 have y3:x1.cell? ⟨p,3,none⟩=some V.ses:=r1.b.cell (j:=3) (by decide)
 rw[e0]at y2;rw[e9]at y3;have HE0:=Hd e0;have HE9:=Hd e9;clear r1 tb1 bx ba e0 e9;obtain⟨Rd,hRd⟩: ∃R,doR M.w s ⟨xk,key,val⟩=R:=⟨_,rfl⟩;obtain⟨er,her⟩: ∃e,doE M.w s ⟨xk,key,val⟩=e:=⟨_,rfl⟩;obtain⟨Wd,aN⟩:=Rd;have HD:=Hd hRd;have HE:=Hd her;clear hRd her;go_cut [7,8,9] (fun p7 p8 e wc=>∃z7 z8 r s',p7= .pointer (some ⟨z7,0,none⟩)∧p8= .pointer (some ⟨z8,0,none⟩)∧e= .int .i64 er∧DoN B x1 wc z7 z8 r s' Wd aN)
 case first=>
  refine region_sg [13,14] ?_;refine anyB_sg [0,1,2,3,4,5] 10 ?_;go_wp2_with fail
  refine sg_o ?_;have S0:=Hd ((DoS.start B x1).keep bR.drew);have HWL:Hid (∀u,Below x1.heap.size x1 u→WL u u.heap.size (.slice A0 M.w.rows.length k0) (.slice A9 M.w.ses.length k9) M.w):=Hd (fun u hb=>by rw[←HE0.out,←HE9.out];exact R1.out.wl H8.out hb)
  have HTB:Hid (∀u,Below x1.heap.size x1 u→Tabs u):=Hd (fun u hb=>(TB1.out.below R1.out.o.leB hb).tabs);have HB:=Hd R1.out.o.leB;obtain⟨aK,aT,aS⟩:=aN;clear b0 b1 b2 y2 y3;generalize x1.drew=x0 at S0⊢;refine anyB_three (i:=6) (j:=11) (k:=12) (by kernel_rfl) rfl rfl rfl (fun K hK=>?_) (fun K hK=>?_) (fun K hK=>?_)
  ·go_simp;refine(do_world _ _ _ M.w _ ⟨xk,key,val⟩ (HTB.out _ S0.out.hb) (HWL.out _ S0.out.hb) HI.out HX.out.1 HX.out.2).mono ?_;rintro e x1 ⟨r',s',cs',rfl,o1,o2,b⟩;refine thK hK b ?_;clear hK K;rw[HD.out]at o1 o2⊢;rw[HE.out];obtain⟨A1,k1,rfl⟩:=o1.form;obtain⟨A2,k2,rfl⟩:=own_slice o2.own;have S1:=Hd (S0.out.did (Nat.le_trans HB.out S0.out.hb.size) o1 o2 b);clear b S0 o1 o2;unfold anV;refine anyB_sg [7,8,9,10] 5 ?_;go_wp2_with fail
   refine sg_o ?_;refine anyB_tw 11 12 (fun K hK=>?_) fun K hK=>?_
   ·go_simp;refine thK hK (boxed _ _) ?_;clear hK K;have S2:=Hd S1.out.f12;obtain⟨z7,hz⟩: ∃z,x1.heap.size=z:=⟨_,rfl⟩;rw[hz]at S2⊢;generalize World.alloc _ _=x2 at S2⊢;clear S1 hz;refine anyB_on 12 fun K hK=>?_;go_simp;refine thK hK (boxed _ _) ?_;clear hK K;have S3:=Hd S2.out.f13;obtain⟨z8,hz⟩: ∃z,x2.heap.size=z:=⟨_,rfl⟩;rw[hz]at S3⊢;generalize World.alloc _ _=x3 at S3⊢;clear S2 hz;obtain⟨b12,l12⟩:=S3.out.b12 _ rfl;obtain⟨b13,l13⟩:=S3.out.b13 _ rfl;have n12:¬ (z8=z7):=b13.ne_ b12 (by decide)
    have f0:=b12.cell_ 0 _ rfl;have f1:=b12.cell_ 1 _ rfl;have f2:=b13.cell_ 0 _ rfl;have f3:=b13.cell_ 1 _ rfl;have f4:=b13.cell_ 2 _ rfl;have ff:=b12.frozen;have fg:=b13.frozen;clear b12 b13 l12 l13;refine anyB_on 13 fun K hK=>?_;go_simp;refine lateK hK ?_;clear hK K;refine anyB_on 14 fun K hK=>?_;go_simp;refine lateK hK ?_;clear hK K;refine anyB_sg [15] 0 ?_;go_wp2_with fail
    refine sg_o ?_;refine anyB_dn ?_;have FN:=Hd (S3.out.fin (a:=⟨aK,aT,aS⟩) rfl);clear f0 f1 f2 f3 f4 ff fg n12;generalize World.setCell _ _ _=x9 at FN⊢;go_wp2_with fail
    go_meet;exact⟨z7,z8,_,_,rfl,rfl,rfl,FN.out⟩
   ·go_simp;refine thK hK (boxed _ _) ?_;clear hK K;have S2:=Hd S1.out.f13;obtain⟨z8,hz⟩: ∃z,x1.heap.size=z:=⟨_,rfl⟩;rw[hz]at S2⊢;generalize World.alloc _ _=x2 at S2⊢;clear S1 hz;refine anyB_on 11 fun K hK=>?_;go_simp;refine thK hK (boxed _ _) ?_;clear hK K;have S3:=Hd S2.out.f12;obtain⟨z7,hz⟩: ∃z,x2.heap.size=z:=⟨_,rfl⟩;rw[hz]at S3⊢;generalize World.alloc _ _=x3 at S3⊢;clear S2 hz;obtain⟨b12,l12⟩:=S3.out.b12 _ rfl;obtain⟨b13,l13⟩:=S3.out.b13 _ rfl;have n12:¬ (z8=z7):=b13.ne_ b12 (by decide)
    have f0:=b12.cell_ 0 _ rfl;have f1:=b12.cell_ 1 _ rfl;have f2:=b13.cell_ 0 _ rfl;have f3:=b13.cell_ 1 _ rfl;have f4:=b13.cell_ 2 _ rfl;have ff:=b12.frozen;have fg:=b13.frozen;clear b12 b13 l12 l13;refine anyB_on 13 fun K hK=>?_;go_simp;refine lateK hK ?_;clear hK K;refine anyB_on 14 fun K hK=>?_;go_simp;refine lateK hK ?_;clear hK K;refine anyB_sg [15] 0 ?_;go_wp2_with fail
    refine sg_o ?_;refine anyB_dn ?_;have FN:=Hd (S3.out.fin (a:=⟨aK,aT,aS⟩) rfl);clear f0 f1 f2 f3 f4 ff fg n12;generalize World.setCell _ _ _=x9 at FN⊢;go_wp2_with fail
    go_meet;exact⟨z7,z8,_,_,rfl,rfl,rfl,FN.out⟩
  ·go_simp;refine thK hK (boxed _ _) ?_;clear hK K;have S1:=Hd S0.out.f12;obtain⟨z7,hz⟩: ∃z,x0.heap.size=z:=⟨_,rfl⟩;rw[hz]at S1⊢;generalize World.alloc _ _=x1 at S1⊢;clear S0 hz;refine anyB_tw 6 12 (fun K hK=>?_) fun K hK=>?_
   ·go_simp;refine(do_world _ _ _ M.w _ ⟨xk,key,val⟩ (HTB.out _ S1.out.hb) (HWL.out _ S1.out.hb) HI.out HX.out.1 HX.out.2).mono ?_;rintro e x2 ⟨r',s',cs',rfl,o1,o2,b⟩;refine thK hK b ?_;clear hK K;rw[HD.out]at o1 o2⊢;rw[HE.out];obtain⟨A1,k1,rfl⟩:=o1.form;obtain⟨A2,k2,rfl⟩:=own_slice o2.own;have S2:=Hd (S1.out.did (Nat.le_trans HB.out S1.out.hb.size) o1 o2 b);clear b S1 o1 o2;unfold anV;refine anyB_sg [7,8,9,10] 4 ?_;go_wp2_with fail
    refine sg_o ?_;refine anyB_on 12 fun K hK=>?_;go_simp;refine thK hK (boxed _ _) ?_;clear hK K;have S3:=Hd S2.out.f13;obtain⟨z8,hz⟩: ∃z,x2.heap.size=z:=⟨_,rfl⟩;rw[hz]at S3⊢;generalize World.alloc _ _=x3 at S3⊢;clear S2 hz;obtain⟨b12,l12⟩:=S3.out.b12 _ rfl;obtain⟨b13,l13⟩:=S3.out.b13 _ rfl;have n12:¬ (z8=z7):=b13.ne_ b12 (by decide)
    have f0:=b12.cell_ 0 _ rfl;have f1:=b12.cell_ 1 _ rfl;have f2:=b13.cell_ 0 _ rfl;have f3:=b13.cell_ 1 _ rfl;have f4:=b13.cell_ 2 _ rfl;have ff:=b12.frozen;have fg:=b13.frozen;clear b12 b13 l12 l13;refine anyB_on 13 fun K hK=>?_;go_simp;refine lateK hK ?_;clear hK K;refine anyB_on 14 fun K hK=>?_;go_simp;refine lateK hK ?_;clear hK K;refine anyB_sg [15] 0 ?_;go_wp2_with fail
    refine sg_o ?_;refine anyB_dn ?_;have FN:=Hd (S3.out.fin (a:=⟨aK,aT,aS⟩) rfl);clear f0 f1 f2 f3 f4 ff fg n12;generalize World.setCell _ _ _=x9 at FN⊢;go_wp2_with fail
    go_meet;exact⟨z7,z8,_,_,rfl,rfl,rfl,FN.out⟩
   ·go_simp;refine thK hK (boxed _ _) ?_;clear hK K;have S2:=Hd S1.out.f13;obtain⟨z8,hz⟩: ∃z,x1.heap.size=z:=⟨_,rfl⟩;rw[hz]at S2⊢;generalize World.alloc _ _=x2 at S2⊢;clear S1 hz;refine anyB_on 6 fun K hK=>?_;go_simp;refine(do_world _ _ _ M.w _ ⟨xk,key,val⟩ (HTB.out _ S2.out.hb) (HWL.out _ S2.out.hb) HI.out HX.out.1 HX.out.2).mono ?_;rintro e x3 ⟨r',s',cs',rfl,o1,o2,b⟩;refine thK hK b ?_;clear hK K;rw[HD.out]at o1 o2⊢;rw[HE.out];obtain⟨A1,k1,rfl⟩:=o1.form;obtain⟨A2,k2,rfl⟩:=own_slice o2.own;have S3:=Hd (S2.out.did (Nat.le_trans HB.out S2.out.hb.size) o1 o2 b);clear b S2 o1 o2;unfold anV;refine anyB_sg [7,8,9,10] 3 ?_;go_wp2_with fail
    refine sg_o ?_;obtain⟨b12,l12⟩:=S3.out.b12 _ rfl;obtain⟨b13,l13⟩:=S3.out.b13 _ rfl;have n12:¬ (z8=z7):=b13.ne_ b12 (by decide)
    have f0:=b12.cell_ 0 _ rfl;have f1:=b12.cell_ 1 _ rfl;have f2:=b13.cell_ 0 _ rfl;have f3:=b13.cell_ 1 _ rfl;have f4:=b13.cell_ 2 _ rfl;have ff:=b12.frozen;have fg:=b13.frozen;clear b12 b13 l12 l13;refine anyB_on 13 fun K hK=>?_;go_simp;refine lateK hK ?_;clear hK K;refine anyB_on 14 fun K hK=>?_;go_simp;refine lateK hK ?_;clear hK K;refine anyB_sg [15] 0 ?_;go_wp2_with fail
    refine sg_o ?_;refine anyB_dn ?_;have FN:=Hd (S3.out.fin (a:=⟨aK,aT,aS⟩) rfl);clear f0 f1 f2 f3 f4 ff fg n12;generalize World.setCell _ _ _=x9 at FN⊢;go_wp2_with fail
    go_meet;exact⟨z7,z8,_,_,rfl,rfl,rfl,FN.out⟩
  ·go_simp;refine thK hK (boxed _ _) ?_;clear hK K;have S1:=Hd S0.out.f13;obtain⟨z8,hz⟩: ∃z,x0.heap.size=z:=⟨_,rfl⟩;rw[hz]at S1⊢;generalize World.alloc _ _=x1 at S1⊢;clear S0 hz;refine anyB_tw 6 11 (fun K hK=>?_) fun K hK=>?_
   ·go_simp;refine(do_world _ _ _ M.w _ ⟨xk,key,val⟩ (HTB.out _ S1.out.hb) (HWL.out _ S1.out.hb) HI.out HX.out.1 HX.out.2).mono ?_;rintro e x2 ⟨r',s',cs',rfl,o1,o2,b⟩;refine thK hK b ?_;clear hK K;rw[HD.out]at o1 o2⊢;rw[HE.out];obtain⟨A1,k1,rfl⟩:=o1.form;obtain⟨A2,k2,rfl⟩:=own_slice o2.own;have S2:=Hd (S1.out.did (Nat.le_trans HB.out S1.out.hb.size) o1 o2 b);clear b S1 o1 o2;unfold anV;refine anyB_sg [7,8,9,10] 4 ?_;go_wp2_with fail
    refine sg_o ?_;refine anyB_on 11 fun K hK=>?_;go_simp;refine thK hK (boxed _ _) ?_;clear hK K;have S3:=Hd S2.out.f12;obtain⟨z7,hz⟩: ∃z,x2.heap.size=z:=⟨_,rfl⟩;rw[hz]at S3⊢;generalize World.alloc _ _=x3 at S3⊢;clear S2 hz;obtain⟨b12,l12⟩:=S3.out.b12 _ rfl;obtain⟨b13,l13⟩:=S3.out.b13 _ rfl;have n12:¬ (z8=z7):=b13.ne_ b12 (by decide)
    have f0:=b12.cell_ 0 _ rfl;have f1:=b12.cell_ 1 _ rfl;have f2:=b13.cell_ 0 _ rfl;have f3:=b13.cell_ 1 _ rfl;have f4:=b13.cell_ 2 _ rfl;have ff:=b12.frozen;have fg:=b13.frozen;clear b12 b13 l12 l13;refine anyB_on 13 fun K hK=>?_;go_simp;refine lateK hK ?_;clear hK K;refine anyB_on 14 fun K hK=>?_;go_simp;refine lateK hK ?_;clear hK K;refine anyB_sg [15] 0 ?_;go_wp2_with fail
    refine sg_o ?_;refine anyB_dn ?_;have FN:=Hd (S3.out.fin (a:=⟨aK,aT,aS⟩) rfl);clear f0 f1 f2 f3 f4 ff fg n12;generalize World.setCell _ _ _=x9 at FN⊢;go_wp2_with fail
    go_meet;exact⟨z7,z8,_,_,rfl,rfl,rfl,FN.out⟩
   ·go_simp;refine thK hK (boxed _ _) ?_;clear hK K;have S2:=Hd S1.out.f12;obtain⟨z7,hz⟩: ∃z,x1.heap.size=z:=⟨_,rfl⟩;rw[hz]at S2⊢;generalize World.alloc _ _=x2 at S2⊢;clear S1 hz;refine anyB_on 6 fun K hK=>?_;go_simp;refine(do_world _ _ _ M.w _ ⟨xk,key,val⟩ (HTB.out _ S2.out.hb) (HWL.out _ S2.out.hb) HI.out HX.out.1 HX.out.2).mono ?_;rintro e x3 ⟨r',s',cs',rfl,o1,o2,b⟩;refine thK hK b ?_;clear hK K;rw[HD.out]at o1 o2⊢;rw[HE.out];obtain⟨A1,k1,rfl⟩:=o1.form;obtain⟨A2,k2,rfl⟩:=own_slice o2.own;have S3:=Hd (S2.out.did (Nat.le_trans HB.out S2.out.hb.size) o1 o2 b);clear b S2 o1 o2;unfold anV;refine anyB_sg [7,8,9,10] 3 ?_;go_wp2_with fail
    refine sg_o ?_;obtain⟨b12,l12⟩:=S3.out.b12 _ rfl;obtain⟨b13,l13⟩:=S3.out.b13 _ rfl;have n12:¬ (z8=z7):=b13.ne_ b12 (by decide)
    have f0:=b12.cell_ 0 _ rfl;have f1:=b12.cell_ 1 _ rfl;have f2:=b13.cell_ 0 _ rfl;have f3:=b13.cell_ 1 _ rfl;have f4:=b13.cell_ 2 _ rfl;have ff:=b12.frozen;have fg:=b13.frozen;clear b12 b13 l12 l13;refine anyB_on 13 fun K hK=>?_;go_simp;refine lateK hK ?_;clear hK K;refine anyB_on 14 fun K hK=>?_;go_simp;refine lateK hK ?_;clear hK K;refine anyB_sg [15] 0 ?_;go_wp2_with fail
    refine sg_o ?_;refine anyB_dn ?_;have FN:=Hd (S3.out.fin (a:=⟨aK,aT,aS⟩) rfl);clear f0 f1 f2 f3 f4 ff fg n12;generalize World.setCell _ _ _=x9 at FN⊢;go_wp2_with fail
    go_meet;exact⟨z7,z8,_,_,rfl,rfl,rfl,FN.out⟩
 case rest=>
  obtain⟨z7,z8,r,s',rfl,rfl,rfl,FN⟩:=hcut;have r2:=R1.out.below FN.hb;have t2:=T1.out.below FN.hb;have ba:=BA.out.keep FN.hb;have a0:=ba.cell_ 0 _ rfl;have a1:=ba.cell_ 1 _ rfl;have a2:=ba.cell_ 2 _ rfl;have af:=ba.frozen;clear b0 b1 b2 y2 y3;obtain⟨aK,aT,aS⟩:=aN;by_cases he:er=0
  ·subst he;obtain⟨A1,k1,rfl⟩:=FN.rows.form;obtain⟨cs2,o2⟩:=FN.ses;obtain⟨A2,k2,rfl⟩:=own_slice o2.own;have c0:=FN.b12.cell_ 0 _ rfl;have c1:=FN.b12.cell_ 1 _ rfl;have HZ:=Hd (show(Wd,(⟨aK,aT,aS⟩:An))=Rz by
    rw[←HRZ.out,←HD.out];unfold poR doR;rw[if_pos HE.out,if_pos HE.out])
   have hz7:z7≠p:=by
    have:=FN.l12;have:=R1.out.b.lt;omega
   have hz8:z8≠p:=by
    have:=FN.l13;have:=R1.out.b.lt;omega
   obtain⟨V4,r4,t4⟩: ∃V4,PoolR ((wc.setCell ⟨p,2,none⟩ (.slice A1 Wd.rows.length k1)).setCell ⟨p,3,none⟩ (.slice A2 Wd.ses.length k2)) B p V4 ks {M with w:=Wd}∧Turn p w V ((wc.setCell ⟨p,2,none⟩ (.slice A1 Wd.rows.length k1)).setCell ⟨p,3,none⟩ (.slice A2 Wd.ses.length k2)) V4:=by
    obtain⟨r3,t3⟩:=r2.put_rows (l:=Wd.rows) FN.rows;obtain⟨r4,t4⟩:=r3.put_ses (l:=Wd.ses) ⟨cs2,osl_keeps o2 (r2.kp 2 _ ty_ses) (r2.kp 2 _ ty_pair)⟩;exact⟨_,r4,(t2.trans t3).trans t4⟩
   have T4:=Hd t4;have R4:=Hd r4;have fp:=r2.b.frozen;have y2:wc.cell? ⟨p,2,none⟩=some V.rows:=r2.b.cell (j:=2) (by decide)
   have y3:wc.cell? ⟨p,3,none⟩=some V.ses:=r2.b.cell (j:=3) (by decide)
   have bz:=(FN.b13.far (p:=⟨p,2,none⟩) hz8 (.slice A1 Wd.rows.length k1)).far (p:=⟨p,3,none⟩) hz8 (.slice A2 Wd.ses.length k2);have ba4:=(ba.far (p:=⟨p,2,none⟩) hqp1 (.slice A1 Wd.rows.length k1)).far (p:=⟨p,3,none⟩) hqp1 (.slice A2 Wd.ses.length k2);clear r2 t2 r4 t4 ba a0 a1 a2 af o2 hz7 hz8 FN;go_upto_region 5 with fail
   clear c0 c1 fp y2 y3;generalize World.setCell _ _ _=x5 at T4 R4 bz ba4⊢;have b0:=bz.cell_ 0 _ rfl;have b1:=bz.cell_ 1 _ rfl;have b2:=bz.cell_ 2 _ rfl;have a0:=ba4.cell_ 0 _ rfl;have a1:=ba4.cell_ 1 _ rfl;have a2:=ba4.cell_ 2 _ rfl;have af:=ba4.frozen;have HF:=Hd (Done.box3 R4.out T4.out ba4 ty_ans (by decide) (by decide) (show w.heap.size≤q+1 by rw[HQ.out];omega) (.int .i64 aK) (.string aT) (.int .i64 aS))
   have BF:=((ba4.set_ 0 (.int .i64 aK)).set_ 1 (.string aT)).set_ 2 (.int .i64 aS);have d0:=BF.cell_ 0 (.int .i64 aK) rfl;have d1:=BF.cell_ 1 (.string aT) rfl;have d2:=BF.cell_ 2 (.int .i64 aS) rfl;clear BF bz ba4;go_wp2_with fail
   generalize World.setCell _ _ _=x6 at HF d0 d1 d2⊢;refine bodyPost_ret (v:=anV ⟨aK,aT,aS⟩) (by simp[results,results70,go_sem,anV,d0,d1,d2]) rfl ⟨by rw[←HZ.out],?_⟩
   rw[←HZ.out];exact HF.out
  ·have HZ:=Hd (show(M.w,(⟨4,tLost,0⟩:An))=Rz by
    rw[←HRZ.out];unfold poR;rw[if_neg (by rw[HE.out];exact he)])
   have n0:(er !=0)=true:=by simpa using he
   have n1:(!(er==0))=true:=n0;have T4:=Hd t2;have R4:=Hd r2;have HF:=Hd (Done.box3 R4.out T4.out ba ty_ans (by decide) (by decide) (show w.heap.size≤q+1 by rw[HQ.out];omega) (.int .i64 4) (.string tLost) (.int .i64 0))
   have BF:=((ba.set_ 0 (.int .i64 4)).set_ 1 (.string tLost)).set_ 2 (.int .i64 0);have d0:=BF.cell_ 0 (.int .i64 4) rfl;have d1:=BF.cell_ 1 (.string tLost) rfl;have d2:=BF.cell_ 2 (.int .i64 0) rfl;clear BF ba r2 t2 he;unfold tLost at d0 d1 d2 HF;go_wp2_with fail
   generalize World.setCell _ _ _=x6 at HF d0 d1 d2⊢;refine bodyPost_ret (v:=anV ⟨4,tLost,0⟩) (by simp[results,results70,go_sem,anV,tLost,d0,d1,d2]) rfl ⟨by rw[←HZ.out],?_⟩
   rw[←HZ.out];exact HF.out
end Go.Proofs.YtjbnfigpflambacGreatDoor
