/- Reference's did, for every statement that is no Exec. Reference's did at an Exec. Reference's did for every statement, and its Did. Conditions: those of each lemma. -/
import Derived.Test.YtjbnfigpflambacGreatDoorH17
import Derived.Test.YtjbnfigpflambacGreatDoorH24
namespace Go.Proofs.YtjbnfigpflambacGreatDoor
set_option maxRecDepth 100000
set_option maxHeartbeats 16000000
open _root_.Go.Proofs.Tryz
open Go.ChangeShapes Go.WideShapes Go.ChangeAt Go.RowKit
section
variable {w w':World}{B:Nat}{g cap n:Nat}{W:Wo}{cs:List Value}{Ar:Option Addr}{cr:Nat}{e:Ending}
theorem DidR.same(hr:OPL w B (.slice Ar W.rows.length cr) W.rows)(hs:OSL w B (.slice (some ⟨g,0,none⟩) n cap) W.ses cs){a:An}{v:Value}(hv:v=anV a)
  (h:e= .returned (.tuple #[.agg #[.slice Ar W.rows.length cr,.slice (some ⟨g,0,none⟩) n cap],v])∧Below w.heap.size w w'):DidR w B g cap n (W,a) e w':=
 ⟨_,cs,by rw[h.1,hv],hr.keeps (.of_below h.2),hs.keep h.2,.of_below h.2⟩
end
theorem found_v(l:List Pr)(key:ByteArray):(if hasK l key=true then Value.agg #[.int .i64 2,.string ((atP l key).getD ⟨#[]⟩),.int .i64 0]else .agg #[.int .i64 3,.string ⟨#[]⟩,.int .i64 0])=anV (foundA (atP l key)):=by
 have h:=hasK_atP l key;cases e:atP l key with
 |none=>rw[e]at h;rw[←h];rfl
 |some v=>rw[e]at h;rw[←h];rfl
theorem Good.lens{W:Wo}(g:Good W){i:Nat}(hi:i<W.ses.length):(W.se i).set.length≤6∧(W.se i).pre.length≤6∧(W.se i).wri.length≤100:=by
 have k:=g.se hi;exact⟨((pairs_iff _ _ _).1 k.set).2.2,((pairs_iff _ _ _).1 k.pre).2.2,((pairs_iff _ _ _).1 k.wri).2.2⟩
theorem refdid1_any(w:World)(B:Nat)(r:Value)(g cap n:Nat)(W:Wo)(cs:List Value)(i:Nat)(x:St)(hB:B≤w.heap.size)(hn:W.ses.length=n)(hr:OPL w B r W.rows)(hs:OSL w B (.slice (some ⟨g,0,none⟩) n cap) W.ses cs)(hi:i<n)
  (hG:Good W) (h1:1≤x.k) (h11:x.k≤11) (h8:x.k≠8) (hk:x.key.size≤maxLen) (hv:x.val.size≤maxLen):
  Calls Tryz.prog 133 #[.agg #[r,.slice (some ⟨g,0,none⟩) n cap],.int .i64 (i:Nat),.agg #[.int .i64 x.k,.string x.key,.string x.val]] w (DidR w B g cap n (did1 W i x)):=by
 have hil:i<W.ses.length:=by omega
 have gs:=hG.se hil;have s0:=gs.st0;have s2:=gs.st2;obtain⟨l1,l2,l3⟩:=hG.lens hil;have lr:=hG.rows100;have hf:=hG.few;obtain⟨Ar,cr,rfl⟩:=hr.form;have hsl:SL w w.heap.size (.slice (some ⟨g,0,none⟩) n cap) W.ses:=hs.sl (by omega)
 obtain⟨k,key,val⟩:=x;simp only at h1 h11 h8 hk hv⊢;by_cases hfl:(W.se i).st=2∧k≠2∧k≠3
 ·have e:did1 W i ⟨k,key,val⟩=(W,noA tFailed):=by unfold did1;rw[if_pos hfl]
  rw[e];exact(refdid_failed w _ n cap Ar _ cr W.ses i ⟨k,key,val⟩ hn hsl hi hfl.1 hfl.2.1 hfl.2.2).mono fun _ _ h=>DidR.same hr hs rfl h
 have ek:did1 W i ⟨k,key,val⟩=if k=1∨k=2∨k=3 then transW W i k else if k=4 then resetW W i else if k=6 then getW W i key else if k=7 then readW W i key else if k=9 then setW W i key val else if k=10 then putW W i key val else if k=11 then prepW W i key val else(W,noA tAsked):=by
  unfold did1;rw[if_neg hfl]
 rw[ek];clear ek;obtain rfl|rfl|rfl|rfl|rfl|rfl|rfl|rfl|rfl|rfl:k=1∨k=2∨k=3∨k=4∨k=5∨k=6∨k=7∨k=9∨k=10∨k=11:=by omega
 ·rw[if_pos (.inl rfl)];unfold transW;by_cases h0:(W.se i).st=0
  ·rw[if_pos ⟨rfl,h0⟩];exact refdid_begin w B _ g cap n W cs i key val hB hn hr hs hi h0
  ·rw[if_neg (fun h=>h0 h.2),if_pos rfl];have h2:(W.se i).st≠2:=fun h=>hfl ⟨h,by decide,by decide⟩
   exact(refdid_begun w _ n cap Ar _ cr W.ses i key val hn hsl hi h2 h0).mono fun _ _ h=>DidR.same hr hs rfl h
 ·rw[if_pos (.inr (.inl rfl))];unfold transW;rw[if_neg (fun h=>absurd h.1 (by decide)),if_neg (by decide)]
  by_cases h0:(W.se i).st=0
  ·rw[if_pos h0];exact(refdid_notx2 w _ n cap Ar _ cr W.ses i key val hn hsl hi h0).mono fun _ _ h=>DidR.same hr hs rfl h
  ·rw[if_neg h0];unfold endW;by_cases h1:(W.se i).st=1
   ·rw[if_pos (by rw[h1];rfl)]
    exact refdid_commit w B _ g cap n W cs i key val hB hn hr hs hi h1 (by omega) (by omega)
   ·rw[if_neg (by simp[h1])]
    exact refdid_abort2 w B _ g cap n W cs i key val hB hn hr hs hi (by omega)
 ·rw[if_pos (.inr (.inr rfl))];unfold transW;rw[if_neg (fun h=>absurd h.1 (by decide)),if_neg (by decide)]
  by_cases h0:(W.se i).st=0
  ·rw[if_pos h0];exact(refdid_notx3 w _ n cap Ar _ cr W.ses i key val hn hsl hi h0).mono fun _ _ h=>DidR.same hr hs rfl h
  ·rw[if_neg h0];unfold endW;rw[if_neg (by simp)]
   by_cases h1:(W.se i).st=1
   ·exact refdid_back1 w B _ g cap n W cs i key val hB hn hr hs hi h1
   ·exact refdid_back2 w B _ g cap n W cs i key val hB hn hr hs hi (by omega)
 ·rw[if_neg (by decide),if_pos rfl]
  have h2:(W.se i).st≠2:=fun h=>hfl ⟨h,by decide,by decide⟩
  unfold resetW;by_cases h0:(W.se i).st=0
  ·rw[if_pos h0,h0];exact refdid_reset w B _ g cap n W cs i key val hB hn hr hs hi h0
  ·rw[if_neg h0];exact(refdid_notin w _ n cap Ar _ cr W.ses i key val hn hsl hi h2 h0).mono fun _ _ h=>DidR.same hr hs rfl h
 ·rw[if_neg (by decide),if_neg (by decide),if_neg (by decide),if_neg (by decide),if_neg (by decide),if_neg (by decide),if_neg (by decide)]
  have h2:(W.se i).st≠2:=fun h=>hfl ⟨h,by decide,by decide⟩
  exact(refdid_asked w _ n cap Ar _ cr W.ses i key val hn hsl hi h2).mono fun _ _ h=>DidR.same hr hs rfl h
 ·rw[if_neg (by decide),if_neg (by decide),if_pos rfl]
  have h2:(W.se i).st≠2:=fun h=>hfl ⟨h,by decide,by decide⟩
  exact(refdid_get w _ n cap Ar _ cr W.ses i key val hn hsl hi h2).mono fun _ _ h=>DidR.same hr hs (found_v _ _) h
 ·rw[if_neg (by decide),if_neg (by decide),if_neg (by decide),if_pos rfl]
  have h2:(W.se i).st≠2:=fun h=>hfl ⟨h,by decide,by decide⟩
  exact refdid_read w B _ g cap n W cs i key val hB hn hr hs hi h2
 ·rw[if_neg (by decide),if_neg (by decide),if_neg (by decide),if_neg (by decide),if_pos rfl]
  have h2:(W.se i).st≠2:=fun h=>hfl ⟨h,by decide,by decide⟩
  unfold setW keepP;by_cases hc:hasK (W.se i).set key=false∧(W.se i).set.length=6
  ·rw[if_pos hc];exact refdid_setfull w B _ g cap n W cs i key val hB hn hr hs hi h2 hc.1 (by omega)
  ·rw[if_neg hc];exact refdid_set w B _ g cap n W cs i key val hB hn hr hs hi h2 (fun h=>by have:¬ (W.se i).set.length=6:=fun h'=>hc ⟨h,h'⟩;omega) l1 hk hv
 ·rw[if_neg (by decide),if_neg (by decide),if_neg (by decide),if_neg (by decide),if_neg (by decide),if_pos rfl]
  have h2:(W.se i).st≠2:=fun h=>hfl ⟨h,by decide,by decide⟩
  unfold putW;by_cases hh:heldB W.ses i key=true
  ·rw[if_pos hh];exact refdid_held w B _ g cap n W cs i key val hB hn hr hs hi h2 hh hG
  ·have hh':heldB W.ses i key=false:=by simpa using hh
   rw[if_neg hh];have hfi:=full_iff hG hil hh';by_cases hc:hasK W.rows key=false∧hasK (W.se i).wri key=false∧card (keysW W)=100
   ·rw[if_pos hc];obtain⟨c1,c2⟩:=hfi.1 hc;exact refdid_putfull w B _ g cap n W cs i key val hB hn hr hs hi h2 hh' c1 c2 hG
   ·rw[if_neg hc];have hroom:hasK (allR W) key=false→(allR W).length<100:=fun h=>by
     rcases Nat.lt_or_ge (allR W).length 100 with h'|h'
     ·exact h'
     ·exact absurd (hfi.2 ⟨h,h'⟩) hc
    by_cases h1:(W.se i).st=1
    ·rw[if_pos h1,h1];exact refdid_puttx w B _ g cap n W cs i key val hB hn hr hs hi h1 hh' hroom hk hv (by omega) hG
    ·rw[if_neg h1];have h0:(W.se i).st=0:=by omega
     have e:W.ses=W.ses.set i ⟨0,(W.se i).set,(W.se i).pre,(W.se i).sav,(W.se i).wri⟩:=by
      have e1:(⟨0,(W.se i).set,(W.se i).pre,(W.se i).sav,(W.se i).wri⟩:Se)=W.se i:=by rw[←h0]
      rw[e1];exact(congrArg Wo.ses (put_back W hil)).symm
     have h:=refdid_putrows w B _ g cap n W cs i key val hB hn hr hs hi h0 hh' hroom hk hv hG;rw[←e]at h;exact h
 ·rw[if_neg (by decide),if_neg (by decide),if_neg (by decide),if_neg (by decide),if_neg (by decide),if_neg (by decide),if_pos rfl]
  have h2:(W.se i).st≠2:=fun h=>hfl ⟨h,by decide,by decide⟩
  unfold prepW keepP;by_cases hc:hasK (W.se i).pre key=false∧(W.se i).pre.length=6
  ·rw[if_pos hc];exact refdid_prepfull w B _ g cap n W cs i key val hB hn hr hs hi h2 hc.1 (by omega)
  ·rw[if_neg hc];exact refdid_prep w B _ g cap n W cs i key val hB hn hr hs hi h2 (fun h=>by have:¬ (W.se i).pre.length=6:=fun h'=>hc ⟨h,h'⟩;omega) l2 hk hv
theorem readK_small{t:ByteArray}(h:(readS t).k≠0):t.size≤60∧(readS t).key.size≤60∧(readS t).val.size≤60:=by
 have h0:readE t=0:=Decidable.byContradiction fun hn=>by
  unfold readS at h;rw[if_neg hn]at h;exact h rfl
 have hz:t.size≤60:=Decidable.byContradiction fun hn=>by
  unfold readE at h0;rw[if_pos (by omega)]at h0
  cases h0
 have e:readS t=rawOf t:=by unfold readS;rw[if_pos h0]
 rw[e];exact⟨hz,Nat.le_trans (part_size t 1) hz,Nat.le_trans (part_size t 2) hz⟩
theorem refdid_exec(w:World)(B:Nat)(r:Value)(g cap n:Nat)(W:Wo)(cs:List Value)(i:Nat)(key val:ByteArray)(hB:B≤w.heap.size)(hn:W.ses.length=n)(hr:OPL w B r W.rows)(hs:OSL w B (.slice (some ⟨g,0,none⟩) n cap) W.ses cs)(hi:i<n)(a:ByteArray)(hs0:(W.se i).st≠2)(ha:atP (W.se i).pre key=some a)(hT:Tabs w)(hG:Good W):
  Calls Tryz.prog 133 #[.agg #[r,.slice (some ⟨g,0,none⟩) n cap],.int .i64 (i:Nat),.agg #[.int .i64 8,.string key,.string val]] w (DidR w B g cap n (did1 W i (readS a))):=by
 obtain⟨Ar,cr,A1,z1,A2,z2,A3,z3,A4,z4,rfl,hse,hpre⟩:=did_pre hB hn hr hs hi;have HP:=Hd (hpre ⟨8,key,val⟩);have g1:(i:Int)<(n:Int):=by omega
 have g2:(0:Int)≤(i:Int):=by omega
 have HN:=Hd hn;have HI:=Hd hi;obtain⟨R,hR⟩: ∃R,did1 W i (readS a)=R:=⟨_,rfl⟩;rw[hR];obtain⟨t,ht⟩: ∃t,W.se i=t:=⟨_,rfl⟩;rw[ht]at hse HP hs0 ha;have hpo:=(hG.se (show i<W.ses.length by omega)).preOk (by rw[ht];exact ha)
 obtain⟨z1',z2',z3'⟩:=readK_small (t:=a) (by omega)
 have hC:=stmtOf_any a (by unfold maxLen;omega)
 unfold ReadOk at hC;have HT:=Hd hT;have HD:=Hd (fun(u:World) (r':Value) (cs':List Value) (hB:B≤u.heap.size) (h1:OPL u B r' W.rows) (h2:OSL u B (.slice (some ⟨g,0,none⟩) n cap) W.ses cs')=>refdid1_any u B r' g cap n W cs' i (readS a) hB hn h1 h2 hi hG (by omega) (by omega) (by omega) (by unfold maxLen;omega) (by unfold maxLen;omega))
 rw[hR]at HD;have hb1:hasK t.pre key=true:=by rw[←hasK_atP,ha];rfl
 have hE:=(hG.se (show i<W.ses.length by omega)).preOk (by rw[ht];exact ha)
 obtain⟨K,hK1,k1,v1,hrs⟩: ∃K,K=(readS a).k∧∃k1 v1,readS a=⟨K,k1,v1⟩:=⟨_,rfl,_,_,rfl⟩;rw[hrs]at hC HD;have HC:=Hd hC;clear hpo z1' z2' z3' hT hG hE hK1 hrs hC;have HS:=Hd hse;clear hpre hse ht hR hn hi hr hs hB;go_enter func133,ntmps133
 go_upto_region 1 with fail
 generalize hw4:(((World.alloc _ _).alloc _).alloc _).alloc _=w4;obtain⟨hz4,f1,y0,y1,y2,y3,y4,hm⟩:=HP.out w4 hw4;have HM:=Hd hm;clear hw4 hm HP;go_upto_region 3 with fail
 clear f1 y0 y1 y2 y3 y4;generalize (World.alloc _ _).alloc _=w6 at HM⊢;have e2:(t.st==2)=false:=by simpa using hs0
 have e2':¬ t.st=2:=hs0;have s0:=HM.out.se.cell_ 0 _ rfl;have s2:=HM.out.se.cell_ 2 _ rfl;have r0:=HM.out.wo.cell_ 0 _ rfl;have r1:=HM.out.wo.cell_ 1 _ rfl;have t0:=HM.out.st.cell_ 0 _ rfl;have t1:=HM.out.st.cell_ 1 _ rfl;go_wp2_with fail
 refine(refat_val _ _ t.pre key ((HS.out.at_ HM.out.bel).p2.pl)).mono ?_;rintro e w7 ⟨rfl,b⟩;have HM1:=Hd (HM.out.keep b);clear s0 s2 r0 r1 t0 t1 b HM;rw[hb1,ha];simp only[Option.getD_some];clear hb1 ha;go_wp2_with fail
 refine(HC.out w7 (HT.out.below HM1.out.bel)).mono ?_;rintro e w8 ⟨rfl,b⟩;have HM2:=Hd (HM1.out.keep b);clear b HM1;unfold St.v;go_upto_region 45 with fail
 have bb:=boxed w8 (.cells #[.int .i64 K,.string k1,.string v1] 41);have HM3:=Hd (HM2.out.keep bb);have Y:=Blk.new w8 41 #[.int .i64 K,.string k1,.string v1];have y0:=Y.cell_ 0 _ rfl;have y1:=Y.cell_ 1 _ rfl;have y2:=Y.cell_ 2 _ rfl;clear bb HM2 Y;generalize World.alloc _ _=w9 at HM3 y0 y1 y2⊢;have r0:=HM3.out.wo.cell_ 0 _ rfl;have r1:=HM3.out.wo.cell_ 1 _ rfl;go_wp2_with fail
 refine(HD.out w9 _ cs (Nat.le_trans HM3.out.hB HM3.out.bel.size) HM3.out.rows HM3.out.ses).mono ?_;rintro e w10 ⟨r',cs',rfl,o1,o2,on⟩;clear r0 r1 y0 y1 y2;have lg:=HM3.out.lg;have DQ:=Hd (show DidQ w w10 w.heap.size B g cap n r' R.1.rows R.1.ses cs' from⟨(Only2.of_below HM3.out.bel).trans on,on.blk HM3.out.rw_ (by omega) (by omega),on.blk HM3.out.ra (by omega) (by omega),o1,o2⟩)
 clear o1 o2 on lg;obtain⟨F,c5,rfl⟩:=DQ.out.rows.form;obtain⟨RW,RA⟩:=R;obtain⟨ak,aT,aS⟩:=RA;unfold anV;simp only at DQ⊢;have u0:=DQ.out.rw_.cell_ 0 _ rfl;have u1:=DQ.out.rw_.cell_ 1 _ rfl;have v0:=DQ.out.ra.cell_ 0 _ rfl;have v1:=DQ.out.ra.cell_ 1 _ rfl;have v2:=DQ.out.ra.cell_ 2 _ rfl;have ff:=DQ.out.rw_.frozen;have fg:=DQ.out.ra.frozen;obtain⟨E1,E2,E3,E4,E5⟩:=DQ.out.ends rfl (.slice F RW.rows.length c5) (.slice (some ⟨g,0,none⟩) n cap) (.int .i64 ak) (.string aT) (.int .i64 aS);have q0:=E4.cell_ 0 _ rfl;have q1:=E4.cell_ 1 _ rfl;have p0:=E5.cell_ 0 _ rfl;have p1:=E5.cell_ 1 _ rfl;have p2:=E5.cell_ 2 _ rfl;have FIN:=Hd (And.intro E1 (And.intro E2 E3));clear E1 E2 E3 E4 E5;go_wp2_with fail
 refine bodyPost_ret (v:=.tuple #[.agg #[.slice F RW.rows.length c5,.slice (some ⟨g,0,none⟩) n cap],.agg #[.int .i64 ak,.string aT,.int .i64 aS]]) ?_ rfl ⟨_,cs',rfl,FIN.out.2.1,FIN.out.2.2,FIN.out.1⟩;simp[results,results133,go_sem,q0,q1,p0,p1,p2]
theorem refdid_any(w:World)(B:Nat)(r:Value)(g cap n:Nat)(W:Wo)(cs:List Value)(i:Nat)(x:St)(hB:B≤w.heap.size)(hn:W.ses.length=n)(hr:OPL w B r W.rows)(hs:OSL w B (.slice (some ⟨g,0,none⟩) n cap) W.ses cs)(hi:i<n)
  (hG:Good W) (hT:Tabs w) (h1:1≤x.k) (h11:x.k≤11) (hk:x.key.size≤maxLen) (hv:x.val.size≤maxLen):
  Calls Tryz.prog 133 #[.agg #[r,.slice (some ⟨g,0,none⟩) n cap],.int .i64 (i:Nat),.agg #[.int .i64 x.k,.string x.key,.string x.val]] w (DidR w B g cap n (did W i x)):=by
 have hil:i<W.ses.length:=by omega
 have hf:=hG.few;by_cases h8:x.k=8
 ·unfold did;rw[if_pos h8];unfold execW;obtain⟨k,key,val⟩:=x;simp only at h8 hk hv⊢;subst h8;by_cases h2:(W.se i).st=2
  ·rw[if_pos h2];obtain⟨Ar,cr,rfl⟩:=hr.form;exact(refdid_failed w _ n cap Ar _ cr W.ses i ⟨8,key,val⟩ hn (hs.sl (by omega)) hi h2 (show(8:Int)≠2 by decide) (show(8:Int)≠3 by decide)).mono fun _ _ h=>DidR.same hr hs rfl h
  ·rw[if_neg h2];have hkk:=hasK_atP (W.se i).pre key;cases ha:atP (W.se i).pre key with
   |none=>
    rw[ha]at hkk;exact refdid_notprep w B r g cap n W cs i key val hB hn hr hs hi h2 hkk.symm
   |some a=>exact refdid_exec w B r g cap n W cs i key val hB hn hr hs hi a h2 ha hT hG
 ·unfold did;rw[if_neg h8];exact refdid1_any w B r g cap n W cs i x hB hn hr hs hi hG h1 h11 h8 hk hv
structure DidE(w wx:World)(q z B g cap n:Nat)(r:Value)(V:Wo)(a:An):Prop where
 only:Only2 g g w wx
 lg:g<q
 rw_:Blk wx (q+2) 39 #[.slice none 0 0,.slice none 0 0]
 ra:Blk wx (q+3) 46 #[.int .i64 0,.string ⟨#[]⟩,.int .i64 0]
 out:Blk wx z 39 #[r,.slice (some ⟨g,0,none⟩) n cap]
 an:Blk wx (z+1) 46 #[.int .i64 a.kind,.string a.text,.int .i64 a.st]
 lz:q+3<z
 rows:OPL wx B r V.rows
 ses: ∃cs,OSL wx B (.slice (some ⟨g,0,none⟩) n cap) V.ses cs
 len:V.ses.length=n
section
variable {w wx wy:World}{q z B g cap n:Nat}{r:Value}{V:Wo}{a:An}
theorem DidE.keep(h:DidE w wx q z B g cap n r V a)(hb:Below wx.heap.size wx wy):DidE w wy q z B g cap n r V a:=by
 obtain⟨cs,hs⟩:=h.ses;exact⟨h.only.below hb,h.lg,h.rw_.keep hb,h.ra.keep hb,h.out.keep hb,h.an.keep hb,h.lz,h.rows.keeps (.of_below hb),⟨cs,hs.keep hb⟩,h.len⟩
theorem DidE.setA(h:DidE w wx q z B g cap n r V a)(hq:w.heap.size=q)(s:Int):DidE w (wx.setCell ⟨z+1,2,none⟩ (.int .i64 s)) q z B g cap n r V ⟨a.kind,a.text,s⟩:=by
 obtain⟨cs,hs⟩:=h.ses;have lz:=h.lz;have lg:=h.lg;have kp: ∀t,46≠t→Keeps t wx (wx.setCell ⟨z+1,2,none⟩ (.int .i64 s)):=fun t ht=>Keeps.set_ (p:=⟨z+1,2,none⟩) h.an ht _;exact⟨h.only.set_new (p:=⟨z+1,2,none⟩) (by show w.heap.size≤z+1;omega) _,h.lg,h.rw_.far (by show q+2≠z+1;omega) _,h.ra.far (by show q+3≠z+1;omega) _,h.out.far (by show z≠z+1;omega) _,h.an.set_ 2 _,h.lz,h.rows.keeps (kp _ (by decide)),⟨cs,(kp _ (by decide)).own hs.own,hs.ses.keeps (kp _ (by decide))⟩,h.len⟩
theorem DidE.cell(h:DidE w wx q z B g cap n r V a){i:Nat}(hi:i<n):wx.cell? ⟨g,i*5,none⟩=some (.int .i64 (V.se i).st)∧(∃c,wx.cell? ⟨g,i*5+4,none⟩=some c)∧∀j,wx.frozen? ⟨g,j,none⟩=false:=by
 obtain⟨cs,hs⟩:=h.ses;have hl:=h.len;obtain⟨v1,v2,v3,v4,k0,k1,k2,k3,k4,_⟩:=SesC.at_ hs.ses i (by omega)
 have hc:=hs.own.cells (g:=g) rfl;have hx: ∀(j:Nat) (u:Value),cs[j]? =some u→wx.cell? ⟨g,j,none⟩=some u:=fun j u hu=>by
  have:=hc j u hu;rwa[adr0]at this
 obtain⟨cur,hg⟩:=hs.row;have e:V.se i=V.ses[i]'(by omega):=getD_at (by omega) _
 exact⟨by rw[e];exact hx _ _ k0,⟨_,hx _ _ k4⟩,fun j=>hg.frozen j⟩
theorem DidE.fail(h:DidE w wx q z B g cap n r V a){i:Nat}(hi:i<n):DidE w ((wx.setCell ⟨g,i*5,none⟩ (.int .i64 2)).setCell ⟨g,i*5+4,none⟩ (.slice none 0 0)) q z B g cap n r (V.put i ⟨2,(V.se i).set,(V.se i).pre,(V.se i).sav,[]⟩) a:=by
 obtain⟨cs,hs⟩:=h.ses;have hl:=h.len;have lz:=h.lz;have lg:=h.lg;obtain⟨cur,hg⟩:=hs.row;have e:V.se i=V.ses[i]'(by omega):=getD_at (by omega) _
 have h0:=hs.put_ (i:=i) (j:=0) (u:=.int .i64 2) (s':=⟨2,(V.se i).set,(V.se i).pre,(V.se i).sav,(V.se i).wri⟩) hl (by omega) (by decide) fun w' a b c d k h1 h2 h3 h4=>⟨a,b,c,d,rfl,by rw[e];exact h1,by rw[e];exact h2,by rw[e];exact h3,by rw[e];exact h4,by simp,by simp⟩
 rw[Nat.add_zero]at h0;have h1:=h0.put_ (i:=i) (j:=4) (u:=.slice none 0 0) (s':=⟨2,(V.se i).set,(V.se i).pre,(V.se i).sav,[]⟩) (by rw[List.length_set];exact hl) (by rw[List.length_set];omega) (by decide) (by
  rw[List.getElem_set_self];exact fun w' a b c d k h1 h2 h3 h4=>⟨a,b,c,_,rfl,h1,h2,h3,OPL.nil_ _ _,by simp,by simp⟩)
 rw[List.set_set]at h1;have far2: ∀{k:Nat} {t:TypeId} {c0:Array Value},k≠g→Blk wx k t c0→Blk ((wx.setCell ⟨g,i*5,none⟩ (.int .i64 2)).setCell ⟨g,i*5+4,none⟩ (.slice none 0 0)) k t c0:=
  fun hk hb=>(hb.far (p:=⟨g,i*5,none⟩) hk _).far (p:=⟨g,i*5+4,none⟩) hk _
 have kp:Keeps 60 wx ((wx.setCell ⟨g,i*5,none⟩ (.int .i64 2)).setCell ⟨g,i*5+4,none⟩ (.slice none 0 0)):=
  (Keeps.set_ (p:=⟨g,i*5,none⟩) hg (by decide) _).trans (Keeps.set_ (p:=⟨g,i*5+4,none⟩) (hg.set_ _ _) (by decide) _)
 exact⟨(h.only.set_ (p:=⟨g,i*5,none⟩) (.inl rfl) _).set_ (p:=⟨g,i*5+4,none⟩) (.inl rfl) _,h.lg,far2 (by omega) h.rw_,far2 (by omega) h.ra,far2 (by omega) h.out,far2 (by omega) h.an,h.lz,h.rows.keeps kp,⟨_,h1⟩,(put_length _ _ _).trans hl⟩
end
theorem refDid_any(w:World)(B:Nat)(r:Value)(g cap n:Nat)(W:Wo)(cs:List Value)(i:Nat)(x:St)(hB:B≤w.heap.size)(hn:W.ses.length=n)(hr:OPL w B r W.rows)(hs:OSL w B (.slice (some ⟨g,0,none⟩) n cap) W.ses cs)(hi:i<n)
  (hG:Good W) (hT:Tabs w) (h1:1≤x.k) (h11:x.k≤11) (hk:x.key.size≤maxLen) (hv:x.val.size≤maxLen):
  Calls Tryz.prog 108 #[.agg #[r,.slice (some ⟨g,0,none⟩) n cap],.int .i64 (i:Nat),.agg #[.int .i64 x.k,.string x.key,.string x.val]] w (DidR w B g cap n (doW W i x)):=by
 have HD:=Hd (fun(u:World) (hb:Below w.heap.size w u)=>refdid_any u B r g cap n W cs i x (Nat.le_trans hB hb.size) hn (hr.keeps (.of_below hb)) (hs.keep hb) hi hG (hT.below hb) h1 h11 hk hv);have lg:=hs.lt.2;have g1:(i:Int)<(n:Int):=by omega
 have g2:(0:Int)≤(i:Int):=by omega
 have HI:=Hd hi;have HDW:=Hd (show doW W i x=((did W i x).1.put i (failSe ((did W i x).1.se i) (did W i x).2),⟨(did W i x).2.kind,(did W i x).2.text,(failSe ((did W i x).1.se i) (did W i x).2).st⟩)from rfl);have hvl:=(did_mine W i x).1.trans hn;obtain⟨R,hR⟩: ∃R,doW W i x=R:=⟨_,rfl⟩;rw[hR]at HDW⊢;obtain⟨⟨V,ak,aT,aS⟩,hD⟩: ∃D,did W i x=D:=⟨_,rfl⟩;rw[hD]at HD HDW hvl;simp only at hvl HDW;have HVL:=Hd hvl;obtain⟨Ar,cr,rfl⟩:=hr.form;obtain⟨k,key,val⟩:=x;clear hR hD hB hn hr hs hi hG hT h1 h11 hk hv hvl;simp only at HD⊢;go_enter func108,ntmps108
 go_upto_region 1 with fail
 generalize hw4:(((World.alloc _ _).alloc _).alloc _).alloc _=w4;obtain⟨d1,e4,d3,d4,d5,d6⟩:=did_boxes w _ _ ⟨k,key,val⟩ w4 hw4.symm;have HB4:=Hd d1;have D5:=Hd d5;have D6:=Hd d6;have r0:=d3.cell_ 0 _ rfl;have r1:=d3.cell_ 1 _ rfl;have t0:=d4.cell_ 0 _ rfl;have t1:=d4.cell_ 1 _ rfl;have t2:=d4.cell_ 2 _ rfl;clear hw4 d1 d3 d4 d5 d6;go_wp2_with fail
 refine(HD.out w4 HB4.out).mono ?_;rintro e w5 ⟨r',cs',rfl,o1,o2,on⟩;obtain⟨F,c5,rfl⟩:=o1.form;unfold anV;have E0:DidE w ((w5.alloc (.cells #[.slice F V.rows.length c5,.slice (some ⟨g,0,none⟩) n cap] 39)).alloc (.cells #[.int .i64 ak,.string aT,.int .i64 aS] 46)) w.heap.size w5.heap.size B g cap n (.slice F V.rows.length c5) V ⟨ak,aT,aS⟩:=by
  have bb:=boxed2 w5 (.cells #[.slice F V.rows.length c5,.slice (some ⟨g,0,none⟩) n cap] 39) (.cells #[.int .i64 ak,.string aT,.int .i64 aS] 46);have h5:=on.size;exact⟨((Only2.of_below HB4.out).trans on).below bb,lg,(on.blk D5.out (by omega) (by omega)).keep bb,(on.blk D6.out (by omega) (by omega)).keep bb,(Blk.new w5 _ _).alloc _,Blk.new1 w5 _ _ _,by omega,o1.keeps (.of_below bb),⟨cs',o2.keep bb⟩,HVL.out⟩
 have ME:=Hd E0;clear r0 r1 t0 t1 t2 o1 o2 on E0 e4 HD HB4 D5 D6;obtain⟨z,hz⟩: ∃z,w5.heap.size=z:=⟨_,rfl⟩;rw[hz]at ME;go_upto_region 2 with fail
 generalize (World.alloc _ _).alloc _=w6 at ME⊢;clear hz;have a0:=ME.out.an.cell_ 0 _ rfl;have b1:=ME.out.out.cell_ 1 _ rfl;obtain⟨c0,⟨c4v,c4⟩,fr⟩:=ME.out.cell HI.out;have fr0:=fr (i*5);have fr4:=fr (i*5+4);by_cases hf:ak=4∧(V.se i).st=1
 ·obtain⟨ha,hs1⟩:=hf;subst ha;have HX:=Hd (show R=(V.put i ⟨2,(V.se i).set,(V.se i).pre,(V.se i).sav,[]⟩,⟨4,aT,2⟩)by rw[HDW.out];unfold failSe;rw[if_pos ⟨rfl,hs1⟩])
  rw[hs1]at c0;clear hs1 HDW;go_upto_region 5 with fail
  have M5:=Hd (ME.out.fail HI.out);clear a0 b1 c0 c4 fr fr0 fr4 ME;generalize World.setCell _ _ _=w7 at M5⊢;obtain⟨c0,-,-⟩:=M5.out.cell HI.out;rw[put_self V (by rw[HVL.out];exact HI.out)]at c0
  have b1:=M5.out.out.cell_ 1 _ rfl;have n2:=M5.out.an.cell_ 2 _ rfl;have fn:=M5.out.an.frozen;go_upto_region 6 with fail
  have MF:=Hd (M5.out.setA rfl (2));clear c0 b1 n2 fn;generalize World.setCell _ _ _=w8 at MF⊢;refine region_sg [2,3] ?_;have MF:=Hd (MF.out.keep bR.drew);generalize w8.drew=w8 at MF⊢;obtain⟨cs9,hs9⟩:=MF.out.ses;have lz:=MF.out.lz;have m1:¬ (z=w.heap.size+2):=by omega
  have m2:¬ (z+1=w.heap.size+2):=by omega
  have m3:¬ (z=w.heap.size+3):=by omega
  have m4:¬ (z+1=w.heap.size+3):=by omega
  have DQ:DidQ w w8 w.heap.size B g cap n (.slice F V.rows.length c5) V.rows (V.ses.set i ⟨2,(V.se i).set,(V.se i).pre,(V.se i).sav,[]⟩) cs9:=⟨MF.out.only,MF.out.rw_,MF.out.ra,MF.out.rows,hs9⟩;have r0:=MF.out.out.cell_ 0 _ rfl;have r1:=MF.out.out.cell_ 1 _ rfl;have k0:=MF.out.an.cell_ 0 _ rfl;have k1:=MF.out.an.cell_ 1 _ rfl;have k2:=MF.out.an.cell_ 2 _ rfl;have u0:=DQ.rw_.cell_ 0 _ rfl;have u1:=DQ.rw_.cell_ 1 _ rfl;have v0:=DQ.ra.cell_ 0 _ rfl;have v1:=DQ.ra.cell_ 1 _ rfl;have v2:=DQ.ra.cell_ 2 _ rfl;have ff:=DQ.rw_.frozen;have fg:=DQ.ra.frozen;obtain⟨E1,E2,E3,E4,E5⟩:=DQ.ends rfl (.slice F V.rows.length c5) (.slice (some ⟨g,0,none⟩) n cap) (.int .i64 4) (.string aT) (.int .i64 (2));have q0:=E4.cell_ 0 _ rfl;have q1:=E4.cell_ 1 _ rfl;have p0:=E5.cell_ 0 _ rfl;have p1:=E5.cell_ 1 _ rfl;have p2:=E5.cell_ 2 _ rfl;have FIN:=Hd (And.intro E1 (And.intro E2 E3));clear E1 E2 E3 E4 E5 DQ hs9 lz;refine anyB_sg [0] 3 ?_;go_wp2_with fail
  refine sg_o ?_;refine anyB_tw 1 2 (fun K hK=>?_) fun K hK=>?_
  ·go_simp;refine thK hK bR ?_;clear hK K;refine anyB_on 2 fun K hK=>?_;go_simp;refine lateK hK ?_;clear hK K;refine anyB_on 3 fun K hK=>?_;go_simp;refine lateK hK ?_;clear hK K;refine anyB_dn ?_;clear v0 v1 v2 ff fg r0 r1 k0 k1 k2 u0 u1;generalize World.setCell _ _ _=w10 at FIN q0 q1 p0 p1 p2⊢;go_wp2_with fail
   refine bodyPost_ret (v:=.tuple #[.agg #[.slice F V.rows.length c5,.slice (some ⟨g,0,none⟩) n cap],.agg #[.int .i64 4,.string aT,.int .i64 2]]) ?_ rfl ⟨_,cs9,by rw[HX.out];rfl,by rw[HX.out];exact FIN.out.2.1,by rw[HX.out];exact FIN.out.2.2,FIN.out.1⟩
   simp[results,results108,go_sem,q0,q1,p0,p1,p2]
  ·go_simp;refine lateK hK ?_;clear hK K;refine anyB_sg [1] 1 ?_;go_wp2_with fail
   refine sg_o ?_;refine anyB_on 3 fun K hK=>?_;go_simp;refine lateK hK ?_;clear hK K;refine anyB_dn ?_;clear v0 v1 v2 ff fg r0 r1 k0 k1 k2 u0 u1;generalize World.setCell _ _ _=w10 at FIN q0 q1 p0 p1 p2⊢;go_wp2_with fail
   refine bodyPost_ret (v:=.tuple #[.agg #[.slice F V.rows.length c5,.slice (some ⟨g,0,none⟩) n cap],.agg #[.int .i64 4,.string aT,.int .i64 2]]) ?_ rfl ⟨_,cs9,by rw[HX.out];rfl,by rw[HX.out];exact FIN.out.2.1,by rw[HX.out];exact FIN.out.2.2,FIN.out.1⟩
   simp[results,results108,go_sem,q0,q1,p0,p1,p2]
 ·have HX:=Hd (show R=(V,⟨ak,aT,(V.se i).st⟩)by
   rw[HDW.out];have e:failSe (V.se i) ⟨ak,aT,aS⟩=V.se i:=by unfold failSe;rw[if_neg hf]
   rw[e,put_back V (by rw[HVL.out];exact HI.out)])
  obtain⟨sT,hst⟩: ∃s,(V.se i).st=s:=⟨_,rfl⟩;rw[hst]at hf HX c0;have hsp:(ak=4∧¬ sT=1)∨¬ ak=4:=by
   by_cases h:ak=4
   ·exact .inl ⟨h,fun h'=>hf ⟨h,h'⟩⟩
   ·exact .inr h
  clear hf HDW;rcases hsp with⟨rfl,h1⟩|h4
  ·have h1':(sT==1)=false:=by simpa using h1
   go_upto_region 5 with fail
   clear a0 b1 c0 c4 fr fr0 fr4 h1 h1';obtain⟨c0,-,-⟩:=ME.out.cell HI.out;rw[hst]at c0;have b1:=ME.out.out.cell_ 1 _ rfl;have n2:=ME.out.an.cell_ 2 _ rfl;have fn:=ME.out.an.frozen;go_upto_region 6 with fail
   have MF:=Hd (ME.out.setA rfl (sT));clear c0 b1 n2 fn;generalize World.setCell _ _ _=w8 at MF⊢;refine region_sg [2,3] ?_;have MF:=Hd (MF.out.keep bR.drew);generalize w8.drew=w8 at MF⊢;obtain⟨cs9,hs9⟩:=MF.out.ses;have lz:=MF.out.lz;have m1:¬ (z=w.heap.size+2):=by omega
   have m2:¬ (z+1=w.heap.size+2):=by omega
   have m3:¬ (z=w.heap.size+3):=by omega
   have m4:¬ (z+1=w.heap.size+3):=by omega
   have DQ:DidQ w w8 w.heap.size B g cap n (.slice F V.rows.length c5) V.rows V.ses cs9:=⟨MF.out.only,MF.out.rw_,MF.out.ra,MF.out.rows,hs9⟩;have r0:=MF.out.out.cell_ 0 _ rfl;have r1:=MF.out.out.cell_ 1 _ rfl;have k0:=MF.out.an.cell_ 0 _ rfl;have k1:=MF.out.an.cell_ 1 _ rfl;have k2:=MF.out.an.cell_ 2 _ rfl;have u0:=DQ.rw_.cell_ 0 _ rfl;have u1:=DQ.rw_.cell_ 1 _ rfl;have v0:=DQ.ra.cell_ 0 _ rfl;have v1:=DQ.ra.cell_ 1 _ rfl;have v2:=DQ.ra.cell_ 2 _ rfl;have ff:=DQ.rw_.frozen;have fg:=DQ.ra.frozen;obtain⟨E1,E2,E3,E4,E5⟩:=DQ.ends rfl (.slice F V.rows.length c5) (.slice (some ⟨g,0,none⟩) n cap) (.int .i64 4) (.string aT) (.int .i64 (sT));have q0:=E4.cell_ 0 _ rfl;have q1:=E4.cell_ 1 _ rfl;have p0:=E5.cell_ 0 _ rfl;have p1:=E5.cell_ 1 _ rfl;have p2:=E5.cell_ 2 _ rfl;have FIN:=Hd (And.intro E1 (And.intro E2 E3));clear E1 E2 E3 E4 E5 DQ hs9 lz;refine anyB_sg [0] 3 ?_;go_wp2_with fail
   refine sg_o ?_;refine anyB_tw 1 2 (fun K hK=>?_) fun K hK=>?_
   ·go_simp;refine thK hK bR ?_;clear hK K;refine anyB_on 2 fun K hK=>?_;go_simp;refine lateK hK ?_;clear hK K;refine anyB_on 3 fun K hK=>?_;go_simp;refine lateK hK ?_;clear hK K;refine anyB_dn ?_;clear v0 v1 v2 ff fg r0 r1 k0 k1 k2 u0 u1;generalize World.setCell _ _ _=w10 at FIN q0 q1 p0 p1 p2⊢;go_wp2_with fail
    refine bodyPost_ret (v:=.tuple #[.agg #[.slice F V.rows.length c5,.slice (some ⟨g,0,none⟩) n cap],.agg #[.int .i64 4,.string aT,.int .i64 sT]]) ?_ rfl ⟨_,cs9,by rw[HX.out];rfl,by rw[HX.out];exact FIN.out.2.1,by rw[HX.out];exact FIN.out.2.2,FIN.out.1⟩
    simp[results,results108,go_sem,q0,q1,p0,p1,p2]
   ·go_simp;refine lateK hK ?_;clear hK K;refine anyB_sg [1] 1 ?_;go_wp2_with fail
    refine sg_o ?_;refine anyB_on 3 fun K hK=>?_;go_simp;refine lateK hK ?_;clear hK K;refine anyB_dn ?_;clear v0 v1 v2 ff fg r0 r1 k0 k1 k2 u0 u1;generalize World.setCell _ _ _=w10 at FIN q0 q1 p0 p1 p2⊢;go_wp2_with fail
    refine bodyPost_ret (v:=.tuple #[.agg #[.slice F V.rows.length c5,.slice (some ⟨g,0,none⟩) n cap],.agg #[.int .i64 4,.string aT,.int .i64 sT]]) ?_ rfl ⟨_,cs9,by rw[HX.out];rfl,by rw[HX.out];exact FIN.out.2.1,by rw[HX.out];exact FIN.out.2.2,FIN.out.1⟩
    simp[results,results108,go_sem,q0,q1,p0,p1,p2]
  ·have h4':(ak==4)=false:=by simpa using h4
   go_upto_region 5 with fail
   clear a0 b1 c0 c4 fr fr0 fr4 h4 h4';obtain⟨c0,-,-⟩:=ME.out.cell HI.out;rw[hst]at c0;have b1:=ME.out.out.cell_ 1 _ rfl;have n2:=ME.out.an.cell_ 2 _ rfl;have fn:=ME.out.an.frozen;go_upto_region 6 with fail
   have MF:=Hd (ME.out.setA rfl (sT));clear c0 b1 n2 fn;generalize World.setCell _ _ _=w8 at MF⊢;refine region_sg [2,3] ?_;have MF:=Hd (MF.out.keep bR.drew);generalize w8.drew=w8 at MF⊢;obtain⟨cs9,hs9⟩:=MF.out.ses;have lz:=MF.out.lz;have m1:¬ (z=w.heap.size+2):=by omega
   have m2:¬ (z+1=w.heap.size+2):=by omega
   have m3:¬ (z=w.heap.size+3):=by omega
   have m4:¬ (z+1=w.heap.size+3):=by omega
   have DQ:DidQ w w8 w.heap.size B g cap n (.slice F V.rows.length c5) V.rows V.ses cs9:=⟨MF.out.only,MF.out.rw_,MF.out.ra,MF.out.rows,hs9⟩;have r0:=MF.out.out.cell_ 0 _ rfl;have r1:=MF.out.out.cell_ 1 _ rfl;have k0:=MF.out.an.cell_ 0 _ rfl;have k1:=MF.out.an.cell_ 1 _ rfl;have k2:=MF.out.an.cell_ 2 _ rfl;have u0:=DQ.rw_.cell_ 0 _ rfl;have u1:=DQ.rw_.cell_ 1 _ rfl;have v0:=DQ.ra.cell_ 0 _ rfl;have v1:=DQ.ra.cell_ 1 _ rfl;have v2:=DQ.ra.cell_ 2 _ rfl;have ff:=DQ.rw_.frozen;have fg:=DQ.ra.frozen;obtain⟨E1,E2,E3,E4,E5⟩:=DQ.ends rfl (.slice F V.rows.length c5) (.slice (some ⟨g,0,none⟩) n cap) (.int .i64 ak) (.string aT) (.int .i64 (sT));have q0:=E4.cell_ 0 _ rfl;have q1:=E4.cell_ 1 _ rfl;have p0:=E5.cell_ 0 _ rfl;have p1:=E5.cell_ 1 _ rfl;have p2:=E5.cell_ 2 _ rfl;have FIN:=Hd (And.intro E1 (And.intro E2 E3));clear E1 E2 E3 E4 E5 DQ hs9 lz;refine anyB_sg [0] 3 ?_;go_wp2_with fail
   refine sg_o ?_;refine anyB_tw 1 2 (fun K hK=>?_) fun K hK=>?_
   ·go_simp;refine thK hK bR ?_;clear hK K;refine anyB_on 2 fun K hK=>?_;go_simp;refine lateK hK ?_;clear hK K;refine anyB_on 3 fun K hK=>?_;go_simp;refine lateK hK ?_;clear hK K;refine anyB_dn ?_;clear v0 v1 v2 ff fg r0 r1 k0 k1 k2 u0 u1;generalize World.setCell _ _ _=w10 at FIN q0 q1 p0 p1 p2⊢;go_wp2_with fail
    refine bodyPost_ret (v:=.tuple #[.agg #[.slice F V.rows.length c5,.slice (some ⟨g,0,none⟩) n cap],.agg #[.int .i64 ak,.string aT,.int .i64 sT]]) ?_ rfl ⟨_,cs9,by rw[HX.out];rfl,by rw[HX.out];exact FIN.out.2.1,by rw[HX.out];exact FIN.out.2.2,FIN.out.1⟩
    simp[results,results108,go_sem,q0,q1,p0,p1,p2]
   ·go_simp;refine lateK hK ?_;clear hK K;refine anyB_sg [1] 1 ?_;go_wp2_with fail
    refine sg_o ?_;refine anyB_on 3 fun K hK=>?_;go_simp;refine lateK hK ?_;clear hK K;refine anyB_dn ?_;clear v0 v1 v2 ff fg r0 r1 k0 k1 k2 u0 u1;generalize World.setCell _ _ _=w10 at FIN q0 q1 p0 p1 p2⊢;go_wp2_with fail
    refine bodyPost_ret (v:=.tuple #[.agg #[.slice F V.rows.length c5,.slice (some ⟨g,0,none⟩) n cap],.agg #[.int .i64 ak,.string aT,.int .i64 sT]]) ?_ rfl ⟨_,cs9,by rw[HX.out];rfl,by rw[HX.out];exact FIN.out.2.1,by rw[HX.out];exact FIN.out.2.2,FIN.out.1⟩
    simp[results,results108,go_sem,q0,q1,p0,p1,p2]
end Go.Proofs.YtjbnfigpflambacGreatDoor
