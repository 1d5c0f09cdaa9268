/- back.find: a key among pairs by binary search. back.held: has another session a write of a row. A set of names in a map, and how many there are. back.total. What a statement is answered. An argument that is a world. Conditions: those of each lemma. -/
import Derived.Test.YtjbnfigpflambacGreatDoorH01
import Derived.Test.YtjbnfigpflambacGreatDoorH07
import Derived.Maps.Own
import Derived.Maps.OwnSet
import Derived.Maps.Views
import Derived.Maps.OwnOps
import Derived.Deep.Slices
import Derived.Deep.Fields
import Derived.ChangeSame
import Derived.SizedLaws
namespace Go.Proofs.YtjbnfigpflambacGreatDoor
set_option maxRecDepth 100000
set_option maxHeartbeats 16000000
open _root_.Go.Proofs.Tryz
open Go.ChangeShapes Go.WideShapes Go.ChangeAt Go.RowKit
theorem cmp_any(a b key:ByteArray)(w:World):
  Calls Tryz.prog 141 #[.agg #[.string a,.string b],.string key] w fun e w'=>e= .returned (.int .i64 (cmpS a key))∧Below w.heap.size w w':=by
 go_enter func141,ntmps141
 go_wp2_with fail
 refine(Tryz.strings_Compare a key _).mono ?_;rintro e w' ⟨rfl,rfl⟩;go_wp2_with fail
 go_ret;exact⟨rfl,boxed _ _⟩
structure Found(l:List Pr)(key:ByteArray)(i:Nat)(b:Bool):Prop where
 le:i≤l.length
 here:b=true→∃h:i<l.length,l[i].k=key
 sorted:Sorted l→i=posP l key∧b=hasK l key
structure Ends(l:List Pr)(key:ByteArray)(lo hi:Nat):Prop where
 le:lo≤hi
 len:hi≤l.length
 pos:Sorted l→lo≤posP l key∧posP l key≤hi
theorem Ends.right{l:List Pr}{key:ByteArray}{lo hi m:Nat}(h:Ends l key lo hi)(_:lo≤m)(_:m<hi)(hm:m<l.length)(hc:ltS l[m].k key=true):Ends l key (m+1) hi:=
 ⟨by omega,h.len,fun hs=>by
  have:=pos_lt hs key m hm;rw[hc]at this;have:m<posP l key:=by simpa using this.symm
  exact⟨this,(h.pos hs).2⟩⟩
theorem Ends.left{l:List Pr}{key:ByteArray}{lo hi m:Nat}(h:Ends l key lo hi)(h1:lo≤m)(_h2:m<hi)(hm:m<l.length)(hc:ltS l[m].k key=false):Ends l key lo m:=
 ⟨h1,by omega,fun hs=>by
  have:=pos_lt hs key m hm;rw[hc]at this;have:¬ m<posP l key:=by simpa using this.symm
  exact⟨(h.pos hs).1,by omega⟩⟩
theorem Ends.found{l:List Pr}{key:ByteArray}{i:Nat}(h:Ends l key i i)(hi:i<l.length):Found l key i (decide (l[i].k=key)):=by
 refine⟨h.len,fun e=>⟨hi,by simpa using e⟩,fun hs=>?_⟩
 have hp:posP l key=i:=by have:=h.pos hs;omega
 refine⟨hp.symm,?_⟩;rw[Bool.eq_iff_iff,decide_eq_true_eq,has_pos hs];simp only[hp];exact⟨fun e=>⟨hi,e⟩,fun⟨_,e⟩=>e⟩
theorem Ends.missed{l:List Pr}{key:ByteArray}{i:Nat}(h:Ends l key i i)(hi:¬ i<l.length):Found l key i false:=by
 refine⟨h.len,(fun e=>by cases e),fun hs=>?_⟩
 have hp:posP l key=i:=by have:=h.pos hs;omega
 refine⟨hp.symm,?_⟩;cases e:hasK l key with
 |false=>rfl
 |true=>
  obtain⟨h1,_⟩:=(has_pos hs key).1 e;omega
theorem search_any(w:World)(v:Value)(l:List Pr)(key:ByteArray)(h:PL w w.heap.size v l):
  Calls Tryz.prog 125 #[v,.string key,.func (.func 141) #[] #[]] w fun e w'=>∃i b,e= .returned (.tuple #[.int .i64 (i:Nat),.bool b])∧Found l key i b∧Below w.heap.size w w':=by
 obtain⟨A,c,rfl,hc,hr,hf⟩:=h;have hl:l.length≤4398046510976:=hf.1;have HR:=Hd hr;obtain⟨n,hN⟩: ∃n,l.length=n:=⟨_,rfl⟩;rw[hN]at hl⊢;have HN:=Hd hN;clear hr hf hc hN;go_enter func125,ntmps125
 go_wp2_with fail
 go_loopw [9,10] (fun a b wx=>∃lo hi:Nat,a= .int .i64 lo∧b= .int .i64 hi∧Ends l key lo hi∧Below w.heap.size w wx) (fun a b _=>(intOf b).toNat-(intOf a).toNat)
 case atStart=>exact⟨0,n,rfl,rfl,⟨Nat.zero_le _,by rw[HN.out];exact Nat.le_refl _,fun _=>⟨Nat.zero_le _,by rw[←HN.out];exact pos_le _ _⟩⟩,bR⟩
 case round=>
  obtain⟨lo,hi,rfl,rfl,hE,hb⟩:=hrel;have h1:=hE.le;have h2:hi≤n:=by rw[←HN.out];exact hE.len
  by_cases hlt:lo<hi
  ·have hm:(lo+hi) / 2<l.length:=by rw[HN.out];omega
   obtain⟨ad,hA,-,c1,c2⟩:=pair_at (HR.out.below hb) hm;subst hA;obtain⟨p,hp⟩: ∃p,l[(lo+hi) / 2]=p:=⟨_,rfl⟩;rw[hp]at c1 c2;have HE:=Hd hE;have HB:=Hd hb;have g1:(0:Int)≤((lo:Int)+(hi:Int)) / 2:=by omega
   have g2:((lo:Int)+(hi:Int)) / 2<(n:Int):=by omega
   have hcm:=cmpS_neg p.k key;have hcall:=fun w=>cmp_any p.k p.v key w;obtain⟨z,hz⟩: ∃z,cmpS p.k key=z:=⟨_,rfl⟩;rw[hz]at hcm hcall;have HC:=Hd hcall;have HP:=Hd hp;cases hless:ltS p.k key with
   |true=>
    rw[hless]at hcm;have hn:z<0:=by simpa using hcm
    have HL:=Hd hless;clear hcm hz hcall hless hp hE hb;go_wp2_with fail
    refine(HC.out _).mono ?_;rintro e w1 ⟨rfl,b1⟩;have B1:=Hd (below_step HB.out leR b1);clear b1;go_wp2_with fail
    go_roundw
    case rel=>exact⟨(lo+hi) / 2+1,hi,by go_num,rfl,HE.out.right (by omega) (by omega) hm (by rw[HP.out];exact HL.out),B1.out⟩
    case measure=>simp[intOf];omega
   |false=>
    rw[hless]at hcm;have hn:0≤z:=by simpa using hcm
    have HL:=Hd hless;clear hcm hz hcall hless hp hE hb;go_wp2_with fail
    refine(HC.out _).mono ?_;rintro e w1 ⟨rfl,b1⟩;have B1:=Hd (below_step HB.out leR b1);clear b1;go_wp2_with fail
    go_roundw
    case rel=>exact⟨lo,(lo+hi) / 2,rfl,by go_num,HE.out.left (by omega) (by omega) hm (by rw[HP.out];exact HL.out),B1.out⟩
    case measure=>simp[intOf];omega
  ·obtain rfl:hi=lo:=by omega
   have HE:=Hd hE;have HB:=Hd hb;by_cases hin:hi<n
   ·have hm:hi<l.length:=by rw[HN.out];exact hin
    obtain⟨ad,hA,-,c1,c2⟩:=pair_at (HR.out.below hb) hm;subst hA;obtain⟨p,hp⟩: ∃p,l[hi]=p:=⟨_,rfl⟩;rw[hp]at c1 c2;have hcm:=cmpS_zero p.k key;have hcall:=fun w=>cmp_any p.k p.v key w;obtain⟨z,hz⟩: ∃z,cmpS p.k key=z:=⟨_,rfl⟩;rw[hz]at hcm hcall;obtain⟨b,hbb⟩: ∃b,decide (p.k=key)=b:=⟨_,rfl⟩;rw[hbb]at hcm;have HC:=Hd hcall;have hfound:=hE.found hm;rw[hp,hbb]at hfound;have HF:=Hd hfound;have g1:(0:Int)≤(hi:Int):=by omega
    have g2:(hi:Int)<(n:Int):=by omega
    clear hz hcall hp hE hb hbb hfound;go_wp2_with fail
    refine(HC.out _).mono ?_;rintro e w1 ⟨rfl,b1⟩;have B1:=Hd (below_step HB.out leR b1);clear b1;go_wp2_with fail
    go_ret2
    exact⟨hi,b,rfl,HF.out,B1.out⟩
   ·have hm:¬ hi<l.length:=by rw[HN.out];exact hin
    have HF:=Hd (hE.missed hm);clear hE hb hm;go_wp2_with fail
    go_ret2
    exact⟨hi,false,rfl,HF.out,HB.out⟩
theorem find_any(w:World)(v:Value)(l:List Pr)(key:ByteArray)(h:PL w w.heap.size v l):
  Calls Tryz.prog 119 #[v,.string key] w fun e w'=>∃i b,e= .returned (.tuple #[.int .i64 (i:Nat),.bool b])∧Found l key i b∧Below w.heap.size w w':=by
 have H:=Hd h;clear h;go_enter func119,ntmps119
 go_wp2_with fail
 refine(search_any _ _ l key H.out).mono ?_;rintro e w1 ⟨i,b,rfl,hf,b1⟩;have HF:=Hd hf;have HB:=Hd b1;clear hf b1;go_wp2_with fail
 go_ret2
 exact⟨i,b,rfl,HF.out,HB.out⟩
def SortedW(ss:List Se):Prop:=∀j,Sorted (ss.getD j Se.new).wri
structure HeldR(ss:List Se)(i:Nat)(key:ByteArray)(b:Bool):Prop where
 here:b=true→heldB ss i key=true
 sorted:SortedW ss→b=heldB ss i key
theorem heldR_yes{ss:List Se}{i k:Nat}{key:ByteArray}(hk:k<ss.length)(hne:k≠i)(h:hasK ss[k].wri key=true):HeldR ss i key true:=by
 have e:heldB ss i key=true:=(held_iff _ _ _).2 ⟨k,hk,hne,by rw[getD_at hk];exact h⟩
 exact⟨fun _=>e,fun _=>e.symm⟩
theorem heldR_no{ss:List Se}{i:Nat}{key:ByteArray}(h:SortedW ss→∀j,j<ss.length→j≠i→hasK (ss.getD j Se.new).wri key=false):HeldR ss i key false:=by
 refine⟨(fun e=>by cases e),fun hs=>?_⟩
 cases e:heldB ss i key with
 |false=>rfl
 |true=>
  obtain⟨j,hj,hne,hk⟩:=(held_iff _ _ _).1 e;rw[h hs j hj hne]at hk;cases hk
theorem held_any(w:World)(r s:Value)(ss:List Se)(i:Nat)(key:ByteArray)(h:SL w w.heap.size s ss)(_hr:r.oneCell'=true)(_hi:i≤1000):
  Calls Tryz.prog 90 #[.agg #[r,s],.int .i64 (i:Nat),.string key] w fun e w'=>∃b,e= .returned (.bool b)∧HeldR ss i key b∧Below w.heap.size w w':=by
 obtain⟨A,c,rfl,hc,hn,hs⟩:=h;have HS:=Hd hs;clear hs hc;obtain⟨n,hN⟩: ∃n,ss.length=n:=⟨_,rfl⟩;rw[hN]at hn⊢;have HN:=Hd hN;clear hN;go_enter func90,ntmps90
 go_wp2_with fail
 go_loopw [14] (fun q wx=>∃k:Nat,k≤n∧q= .int .i64 k∧Hid (SortedW ss→∀j,j<k→j≠i→hasK (ss.getD j Se.new).wri key=false)∧Below w.heap.size w wx) (fun q _=>n-(intOf q).toNat)
 case atStart=>exact⟨0,Nat.zero_le _,rfl,Hd (fun _ j hj=>absurd hj (Nat.not_lt_zero _)),boxed _ _⟩
 case round=>
  obtain⟨k,hk,rfl,HG,hb⟩:=hrel;by_cases hlt:k<n
  ·have hkl:k<ss.length:=by rw[HN.out];exact hlt
   obtain⟨ad,hA,hB,hse⟩:=HS.out (by rw[HN.out];omega)
   subst hA;have q:=(hse k hkl).below (by rw[block_of_add];exact hB) hb
   obtain⟨t,ht⟩: ∃t,ss[k]=t:=⟨_,rfl⟩;rw[ht]at q;obtain⟨x0,⟨v1,x1,p1⟩,⟨v2,x2,p2⟩,⟨v3,x3,p3⟩,⟨v4,x4,p4⟩,-,-⟩:=q;obtain⟨A1,z1,rfl⟩:=p1.form;obtain⟨A2,z2,rfl⟩:=p2.form;obtain⟨A3,z3,rfl⟩:=p3.form;obtain⟨A4,z4,rfl⟩:=p4.form;have P4:=Hd ((p4.more hb.size).alloc leR (.cells #[.int .i64 t.st,.slice A1 t.set.length z1,.slice A2 t.pre.length z2,.slice A3 t.sav.length z3,.slice A4 t.wri.length z4] 133));have HT:=Hd ht;have HB:=Hd hb;have g1:(k:Int)<(n:Int):=by omega
   have g2:(0:Int)≤(k:Int):=by omega
   have l3:(ad.add (k*5)).block<wr.heap.size:=World.block_lt_of_cell? wr _ x0;clear p1 p2 p3 p4 ht hse hb hB;go_wp2_with fail
   refine(find_any _ _ t.wri key (P4.out.more (by simp))).mono ?_
   rintro e w1 ⟨ix,there,rfl,hf,b1⟩;have HF:=Hd hf;have HB1:=Hd (below_step HB.out leR (below_of_alloc leR b1));clear hf b1;cases there with
   |true=>
    by_cases hki:k=i
    ·have e1:((k:Int)!=(i:Int))=false:=by simp[hki]
     have e2:(k !=i)=false:=by simp[hki]
     have HG2:=Hd (show SortedW ss→∀j,j<k+1→j≠i→hasK (ss.getD j Se.new).wri key=false from fun hs j hj hne=>HG.out hs j (by omega) hne)
     clear hki;go_wp2_with fail
     go_roundw
     case rel=>exact⟨k+1,by omega,by go_num,HG2,HB1.out⟩
     case measure=>simp[intOf];omega
    ·have e1:((k:Int)!=(i:Int))=true:=by simp;omega
     have e2:(k !=i)=true:=by simp[hki]
     have HR:=Hd (heldR_yes (key:=key) hkl hki (by
      rw[HT.out];obtain⟨hx,e⟩:=HF.out.here rfl;exact(hasK_iff _ _).2 (List.mem_map.2 ⟨_,List.getElem_mem hx,e⟩)))
     clear hki;go_wp2_with fail
     go_ret;exact⟨true,rfl,HR.out,HB1.out⟩
   |false=>
    have HG2:=Hd (show SortedW ss→∀j,j<k+1→j≠i→hasK (ss.getD j Se.new).wri key=false from fun hs j hj hne=>by
     rcases Nat.lt_succ_iff_lt_or_eq.1 hj with hj|rfl
     ·exact HG.out hs j hj hne
     ·have h1:=hs j;rw[getD_at hkl,HT.out]at h1⊢;exact(HF.out.sorted h1).2.symm)
    go_wp2_with fail
    go_roundw
    case rel=>exact⟨k+1,by omega,by go_num,HG2,HB1.out⟩
    case measure=>simp[intOf];omega
  ·obtain rfl:k=n:=by omega
   have HR:=Hd (heldR_no (key:=key) (fun hs j hj hne=>HG.out hs j (by rw[←HN.out];exact hj) hne))
   have HB:=Hd hb;clear hb;go_wp2_with fail
   go_ret;exact⟨false,rfl,HR.out,HB.out⟩
open Go.Maps Go.WideMaps
def litS(k:ByteArray):Lit:=.string k.data.toList
theorem litS_inj{a b:ByteArray}(h:litS a=litS b):a=b:=by
 unfold litS at h;injection h with h;obtain⟨⟨x⟩⟩:=a;obtain⟨⟨y⟩⟩:=b;simp only at h;rw[h]
def setN{H:Type}(l:List ByteArray):DataW H:=setOf (.lit (.bool true)) (l.map litS)
theorem setN_snoc{H:Type}(l:List ByteArray)(k:ByteArray):setN (H:=H) (l++[k])=(setN l).put (litS k) (.lit (.bool true)):=by
 unfold setN;rw[List.map_append,List.map_cons,List.map_nil,setOf_snoc]
theorem key_lits(l:List ByteArray): ∀x∈l.map litS,WideAt.IsKeyLit x:=by
 intro x hx;obtain⟨k,_,rfl⟩:=List.mem_map.1 hx;trivial
theorem has_setN{H:Type}(l:List ByteArray)(k:ByteArray):Maps.has (setN (H:=H) l) (litS k)=hasN l k:=by
 unfold setN;rw[has_setOf _ _ _ (key_lits l),Bool.eq_iff_iff,hasN_iff,List.any_eq_true];constructor
 ·rintro⟨x,hx,h⟩;obtain⟨j,hj,rfl⟩:=List.mem_map.1 hx;rw[←litS_inj (WideAt.sameKey_eq h)];exact hj
 ·intro h;exact⟨litS k,List.mem_map.2 ⟨k,h,rfl⟩,WideAt.sameKey_self trivial⟩
theorem size_rev{H:Type}: ∀l:List ByteArray,Maps.size (setN (H:=H) l.reverse)=card l
 |[]=>rfl
 |k::m=>by
  have ih:=size_rev (H:=H) m;have hh:hasN m.reverse k=hasN m k:=by rw[Bool.eq_iff_iff,hasN_iff,hasN_iff];simp
  rw[List.reverse_cons,setN_snoc,size_put (show Tidy (setN (H:=H) m.reverse)from tidy_setOf _ _ (key_lits _)),has_setN,ih,hh,card_cons]
theorem size_setN{H:Type}(l:List ByteArray):Maps.size (setN (H:=H) l)=card l:=by
 have h:=size_rev (H:=H) l.reverse;rw[List.reverse_reverse]at h;rw[h];exact card_congr fun x=>by simp
theorem law9:Keyed Tryz.prog 9:=string_keyed underlying9
structure TotAt(w wx:World)(r s:Value)(K:List ByteArray):Prop where
 bel:Below w.heap.size w wx
 own:wx.ownsMap Tryz.prog 9 (plainElem (H:=Unit) Tryz.prog 4) (w.heap.size+1) K.length (setN K)
 box:Blk wx w.heap.size 39 #[r,s]
theorem TotAt.start(w:World)(r s:Value):TotAt w ((w.alloc (.cells #[r,s] 39)).alloc (.map #[] 0)) r s []:=by
 refine⟨boxed2 w _ _,?_,(Blk.new w _ _).alloc _⟩;have h:=World.ownsMap_made (w.alloc (.cells #[r,s] 39)) Tryz.prog 9 (plainElem (H:=Unit) Tryz.prog 4);have e:(w.alloc (.cells #[r,s] 39)).heap.size=w.heap.size+1:=by simp
 rw[e]at h;exact h
theorem TotAt.step{w wx w1:World}{r s:Value}{K:List ByteArray}{k:ByteArray}{o:Obj}(h:TotAt w wx r s K)(hown:w1.ownsMap Tryz.prog 9 (plainElem (H:=Unit) Tryz.prog 4) (w.heap.size+1) (K.length+1) ((setN K).put (litS k) (.lit (.bool true))))
  (hg:(wx.alloc o).grownBy w1 (some (w.heap.size+1))):TotAt w w1 r s (K++[k]):=by
 refine⟨(h.bel.alloc h.bel.size o).grown hg (Nat.le_trans h.bel.size (by simp)) (fun j hj=>by injection hj with hj;omega),?_,(h.box.alloc o).grown hg (fun e=>by injection e with e;omega)⟩
 rw[setN_snoc,List.length_append];exact hown
theorem TotAt.alloc{w wx:World}{r s:Value}{K:List ByteArray}(h:TotAt w wx r s K)(o:Obj):TotAt w (wx.alloc o) r s K:=⟨h.bel.alloc h.bel.size o,h.own.alloc o,h.box.alloc o⟩
theorem TotAt.lt{w wx:World}{r s:Value}{K:List ByteArray}(h:TotAt w wx r s K):w.heap.size+1<wx.heap.size:=h.own.lt
theorem total_any(w:World)(r s:Value)(W:Wo)(h:WL w w.heap.size r s W)(hr:W.rows.length≤1000)(hs:W.ses.length≤8)(hw: ∀t∈W.ses,t.wri.length≤1000):
  Calls Tryz.prog 91 #[.agg #[r,s]] w fun e w'=>e= .returned (.int .i64 (card (keysW W)))∧Below w.heap.size w w':=by
 obtain⟨A,c,er,hc,hrr,hrf⟩:=h.rows;obtain⟨A',c',es,hc',hn',hss⟩:=h.ses;obtain⟨rows,ses⟩:=W;have er:r= .slice A rows.length c:=er;have es:s= .slice A' ses.length c':=es;have HR:=Hd hrr;have HF:=Hd hrf;have HS:=Hd hss;have HW:=Hd hw;have T0:=Hd (TotAt.start w r s);subst er es;obtain⟨n,hN⟩: ∃n,rows.length=n:=⟨_,rfl⟩;obtain⟨m,hM⟩: ∃m,ses.length=m:=⟨_,rfl⟩;have hr:n≤1000:=by rw[←hN];exact hr
 have hs:m≤8:=by rw[←hM];exact hs
 rw[hN,hM]at T0⊢;have HN:=Hd hN;have HM:=Hd hM;have hmm:=@run_makeMap Tryz.prog;clear h hrr hrf hss hw hc hc' hn' hN hM;go_enter func91,ntmps91
 go_wp2_with fail
 go_loopw [14] (fun i wx=>∃k:Nat,k≤n∧i= .int .i64 k∧TotAt w wx (.slice A n c) (.slice A' m c') ((rows.take k).map (·.k))) (fun i _=>n-(intOf i).toNat)
 case atStart=>exact⟨0,Nat.zero_le _,rfl,T0.out⟩
 case round=>
  obtain⟨k,hk,rfl,hT⟩:=hrel;by_cases hlt:k<n
  ·have hkl:k<rows.length:=by rw[HN.out];exact hlt
   obtain⟨ad,hA,hBl,c1,c2⟩:=pair_at (HR.out.below hT.bel) hkl;subst hA;obtain⟨p,hp⟩: ∃p,rows[k]=p:=⟨_,rfl⟩;rw[hp]at c1 c2;have hpf:p.k.size≤maxLen:=(HF.out.2 p (by rw[←hp];exact List.getElem_mem hkl)).1
   have hkey:=keyOf_string_mk (P:=Tryz.prog) underlying9 hpf;have htk:(rows.take (k+1)).map (·.k)=(rows.take k).map (·.k)++[p.k]:=by rw[List.take_succ_eq_append_getElem hkl,hp,List.map_append];rfl
   have hKl:((rows.take k).map (·.k)).length≤1000:=by rw[List.length_map,List.length_take];omega
   have HT:=Hd hT;have HTK:=Hd htk;have HOW:=Hd (hT.own.alloc (.cells #[.string p.k,.string p.v] 60));have HKY:=Hd hkey;have g1:(0:Int)≤(k:Int):=by omega
   have g2:(k:Int)<(n:Int):=by omega
   clear hT hp htk hkey;obtain⟨K,hK⟩: ∃K,(rows.take k).map (·.k)=K:=⟨_,rfl⟩;rw[hK]at HT HTK HOW hKl;clear hK;go_wp2_with (at_mapUpdate;refine wpList_mapUpdate_own _ rfl _ _ _ 188 rfl 9 4 law9 underlying188 (plainElem (H:=Unit) Tryz.prog 4) (w.heap.size+1) K.length _ rfl HOW.out (by unfold maxLen;omega) _ _ _ rfl rfl HKY.out _ [] (plainElem_bool underlying4 true) ?_;intro w1 hown1 hgrow1)
   have hT1:=HT.out.step hown1 hgrow1;have HT1:=Hd hT1;clear hown1 hgrow1 hT1;go_wp2_with fail
   go_roundw
   case rel=>exact⟨k+1,by omega,by go_num,by rw[HTK.out];exact HT1.out⟩
   case measure=>simp[intOf];omega
  ·obtain rfl:k=n:=by omega
   have e0:rows.take k=rows:=List.take_of_length_le (by rw[HN.out];exact Nat.le_refl _)
   rw[e0]at hT;have b1:=hT.box.cell_ 1 _ rfl;have HT:=Hd hT;have hlt2:=hT.lt;clear hT e0;go_wp2_with fail
   obtain⟨wo,rfl⟩: ∃wo:World,wo=wr:=⟨_,rfl⟩;go_loopw [25,7,9,26,27,28,29,30,31,32,33,34,35,36,37,38,39,40] (fun i _ _ _ _ _ _ _ _ _ _ _ _ _ _ _ _ _ wx=>∃j:Nat,j≤m∧i= .int .i64 j∧TotAt w wx (.slice A k c) (.slice A' m c') (rows.map (·.k)++(ses.take j).flatMap fun t=>t.wri.map (·.k))) (fun i _ _ _ _ _ _ _ _ _ _ _ _ _ _ _ _ _ _=>m-(intOf i).toNat)
   case atStart=>exact⟨0,Nat.zero_le _,rfl,by rw[List.take_zero,List.flatMap_nil,List.append_nil];exact HT.out⟩
   case round=>
    obtain⟨j,hj,rfl,hT⟩:=hrel;by_cases hlj:j<m
    ·have hjl:j<ses.length:=by rw[HM.out];exact hlj
     obtain⟨ad,hA,hBl,hse⟩:=HS.out (by omega)
     subst hA;have q:=hse j hjl;obtain⟨t,ht⟩: ∃t,ses[j]=t:=⟨_,rfl⟩;rw[ht]at q;have hwt:t.wri.length≤1000:=HW.out t (by rw[←ht];exact List.getElem_mem hjl)
     obtain⟨x0,⟨v1,x1,p1⟩,⟨v2,x2,p2⟩,⟨v3,x3,p3⟩,⟨v4,x4,p4⟩,-,-⟩:=q;have hbl2:(ad.add (j*5)).block<w.heap.size:=by rw[block_of_add];exact hBl
     replace x0:=(hT.bel.cell hbl2).trans x0
     replace x1:=(hT.bel.cell (by exact hbl2)).trans x1
     replace x2:=(hT.bel.cell (by exact hbl2)).trans x2
     replace x3:=(hT.bel.cell (by exact hbl2)).trans x3
     replace x4:=(hT.bel.cell (by exact hbl2)).trans x4
     obtain⟨A1,z1,rfl⟩:=p1.form;obtain⟨A2,z2,rfl⟩:=p2.form;obtain⟨A3,z3,rfl⟩:=p3.form;obtain⟨A4,z4,e4,_,r4,f4⟩:=p4;subst e4;have R4:=Hd r4;have F4:=Hd f4;have HT1:=Hd (hT.alloc (.cells #[.int .i64 t.st,.slice A1 t.set.length z1,.slice A2 t.pre.length z2,.slice A3 t.sav.length z3,.slice A4 t.wri.length z4] 133));have g1:(j:Int)<(m:Int):=by omega
     have g2:(0:Int)≤(j:Int):=by omega
     have l3:(ad.add (j*5)).block<wr.heap.size:=World.block_lt_of_cell? wr _ x0;have HTJ:=Hd (show ses.take (j+1)=ses.take j++[t]by rw[List.take_succ_eq_append_getElem hjl,ht])
     have hKl:(rows.map (·.k)++(ses.take j).flatMap fun t=>t.wri.map (·.k)).length≤1000+1000*j:=by
      rw[List.length_append,List.length_map,HN.out,List.length_flatMap];have:((ses.take j).map fun t=>(t.wri.map (·.k)).length).sum≤1000*(ses.take j).length:=by
       have hall: ∀t∈ses.take j,t.wri.length≤1000:=fun t h=>HW.out t (List.mem_of_mem_take h);generalize ses.take j=q at hall;induction q with
       |nil=>simp
       |cons a q ih=>
        have h1:=hall a List.mem_cons_self;have h2:=ih fun t h=>hall t (List.mem_cons_of_mem _ h);simp only[List.map_cons,List.sum_cons,List.length_cons,List.length_map]at h2⊢;omega
      rw[List.length_take]at this;have:=Nat.mul_le_mul_left 1000 (Nat.min_le_left j ses.length);omega
     obtain⟨K,hK⟩: ∃K,rows.map (·.k)++(ses.take j).flatMap (fun t=>t.wri.map (·.k))=K:=⟨_,rfl⟩;rw[hK]at HT1 hKl;have HK:=Hd hK;obtain⟨q,hq⟩: ∃q,t.wri.length=q:=⟨_,rfl⟩;rw[hq]at hwt HT1;have HQ:=Hd hq;have HA:=HT1;clear p1 p2 p3 r4 f4 ht hse hT hBl hjl hq hK;go_wp2_with fail
     rw[HQ.out];clear x0 x1 x2 x3 x4 l3;generalize wr.alloc (.cells #[.int .i64 t.st,.slice A1 t.set.length z1,.slice A2 t.pre.length z2,.slice A3 t.sav.length z3,.slice A4 q z4] 133)=wi at HT1 HA⊢;go_loopw [32,9,33,34,35,36,37,38,39] (fun i _ _ _ _ _ _ _ _ wx=>∃a:Nat,a≤q∧i= .int .i64 a∧TotAt w wx (.slice A k c) (.slice (some ad) m c') (K++(t.wri.take a).map (·.k))) (fun i _ _ _ _ _ _ _ _ _=>q-(intOf i).toNat)
     case atStart=>exact⟨0,Nat.zero_le _,rfl,by rw[List.take_zero,List.map_nil,List.append_nil];exact HT1.out⟩
     case round=>
      obtain⟨a,ha,rfl,hT⟩:=hrel;by_cases hla:a<q
      ·have hal:a<t.wri.length:=by rw[HQ.out];exact hla
       obtain⟨bd,hA2,hBl,c1,c2⟩:=pair_at (R4.out.below hT.bel) hal;subst hA2;obtain⟨p,hp⟩: ∃p,t.wri[a]=p:=⟨_,rfl⟩;rw[hp]at c1 c2;have hpf:p.k.size≤maxLen:=(F4.out.2 p (by rw[←hp];exact List.getElem_mem hal)).1
       have hkey:=keyOf_string_mk (P:=Tryz.prog) underlying9 hpf;have htk:(t.wri.take (a+1)).map (·.k)=(t.wri.take a).map (·.k)++[p.k]:=by rw[List.take_succ_eq_append_getElem hal,hp,List.map_append];rfl
       have hKl2:(K++(t.wri.take a).map (·.k)).length≤20000:=by rw[List.length_append,List.length_map,List.length_take];omega
       have HT2:=Hd hT;have HTK:=Hd htk;have HOW:=Hd (hT.own.alloc (.cells #[.string p.k,.string p.v] 60));have HKY:=Hd hkey;have g3:(0:Int)≤(a:Int):=by omega
       have g4:(a:Int)<(q:Int):=by omega
       clear hT hp htk hkey;obtain⟨K2,hK2⟩: ∃K2,K++(t.wri.take a).map (·.k)=K2:=⟨_,rfl⟩;rw[hK2]at HT2 HOW hKl2;have HK2:=Hd hK2;clear hK2;go_wp2_with (at_mapUpdate;refine wpList_mapUpdate_own _ rfl _ _ _ 188 rfl 9 4 law9 underlying188 (plainElem (H:=Unit) Tryz.prog 4) (w.heap.size+1) K2.length _ rfl HOW.out (by unfold maxLen;omega) _ _ _ rfl rfl HKY.out _ [] (plainElem_bool underlying4 true) ?_;intro w1 hown1 hgrow1)
       have hT1:=HT2.out.step hown1 hgrow1;have HT3:=Hd hT1;clear hown1 hgrow1 hT1;go_wp2_with fail
       go_roundw
       case rel=>exact⟨a+1,by omega,by go_num,by rw[HTK.out,←List.append_assoc,HK2.out];exact HT3.out⟩
       case measure=>simp[intOf];omega
      ·obtain rfl:a=q:=by omega
       have e0:t.wri.take a=t.wri:=List.take_of_length_le (by rw[HQ.out];exact Nat.le_refl _)
       rw[e0]at hT;have HT2:=Hd hT;clear hT e0;go_wp2_with fail
       go_roundw
       case rel=>
        refine⟨j+1,by omega,by go_num,?_⟩
        rw[HTJ.out,List.flatMap_append,←List.append_assoc,HK.out];simpa using HT2.out
       case measure=>simp[intOf];omega
    ·obtain rfl:j=m:=by omega
     have e0:ses.take j=ses:=List.take_of_length_le (by rw[HM.out];exact Nat.le_refl _)
     rw[e0]at hT;obtain⟨K,hK⟩: ∃K,rows.map (·.k)++ses.flatMap (fun t=>t.wri.map (·.k))=K:=⟨_,rfl⟩;rw[hK]at hT;have HK:=Hd hK;have HOW:=Hd hT.own;have HT2:=Hd hT;clear hT e0 hK;go_wp2_with (at_len;refine wpList_len_own _ rfl _ 188 rfl 9 4 underlying188 _ (w.heap.size+1) K.length _ rfl HOW.out ?_)
     go_ret;refine⟨?_,HT2.out.bel⟩;rw[size_setN];have e:card K=card (keysW ⟨rows,ses⟩):=by rw[←HK.out];rfl
     rw[←e];rfl
def errL:List ByteArray:=[tFailed,tBegun,tNoTx,tNotIn,tFull,tHeld,tNotPrep,tAsked]
def AnsOk(a:An):Prop:=(a.kind=1∧a.text=⟨#[]⟩)∨(a.kind=3∧a.text=⟨#[]⟩)∨(a.kind=2∧1≤a.text.size∧a.text.size≤20)∨(a.kind=4∧a.text∈errL)
theorem ok_ok:AnsOk okA:=.inl ⟨rfl,rfl⟩
theorem no_ok{t:ByteArray}(h:t∈errL):AnsOk (noA t):=.inr (.inr (.inr ⟨rfl,h⟩))
theorem value_sz{v:ByteArray}(h:valueB v=true):1≤v.size∧v.size≤20:=by
 unfold valueB at h;simp only[Bool.and_eq_true,decide_eq_true_eq]at h;exact h.1
theorem check_val{k:Int}{key v:ByteArray}(hk:k=9∨k=10)(h:checkE ⟨k,key,v⟩=0):valueB v=true:=by
 unfold checkE at h;rw[if_neg (by show ¬ k=11;omega)]at h
 unfold plainE at h;simp only at h;rw[if_neg (by omega),if_neg (by omega)]at h
 split at h
 ·cases h
 rw[if_neg (by omega)]at h
 split at h
 ·assumption
 ·cases h
theorem found_ok{l:List Pr}{k:Int}(hk:k=9∨k=10)(h: ∀p∈l,checkE ⟨k,p.k,p.v⟩=0)(key:ByteArray):AnsOk (foundA (atP l key)):=by
 cases e:atP l key with
 |none=>exact .inr (.inl ⟨rfl,rfl⟩)
 |some v=>exact .inr (.inr (.inl ⟨rfl,value_sz (check_val hk (h _ (atP_mem' e)))⟩))
theorem did1_ok{W:Wo}(g:Good W){i:Nat}(hi:i<W.ses.length)(x:St):AnsOk (did1 W i x).2:=by
 have gs:=g.se hi;have hset:=((pairs_iff _ _ _).1 gs.set).1;have hwri:=((pairs_iff _ _ _).1 gs.wri).1;have hrow:=((pairs_iff _ _ _).1 g.rows).1;unfold did1;split
 ·exact no_ok (by simp[errL])
 split
 ·unfold transW;split
  ·exact ok_ok
  split
  ·exact no_ok (by simp[errL])
  split
  ·exact no_ok (by simp[errL])
  ·exact ok_ok
 split
 ·unfold resetW;split
  ·exact ok_ok
  ·exact no_ok (by simp[errL])
 split
 ·exact found_ok (.inl rfl) hset _
 split
 ·unfold readW;have h1:=found_ok (.inr rfl) hwri x.key;have h2:=found_ok (.inr rfl) hrow x.key;cases e:atP (W.se i).wri x.key with
  |none=>exact h2
  |some v=>rw[e]at h1;exact h1
 split
 ·unfold setW;split
  ·exact no_ok (by simp[errL])
  ·exact ok_ok
 split
 ·unfold putW;split
  ·exact no_ok (by simp[errL])
  split
  ·exact no_ok (by simp[errL])
  split
  ·exact ok_ok
  ·exact ok_ok
 split
 ·unfold prepW;split
  ·exact no_ok (by simp[errL])
  ·exact ok_ok
 ·exact no_ok (by simp[errL])
theorem did_ok{W:Wo}(g:Good W){i:Nat}(hi:i<W.ses.length)(x:St):AnsOk (did W i x).2:=by
 unfold did;split
 ·unfold execW;split
  ·exact no_ok (by simp[errL])
  ·split
   ·exact no_ok (by simp[errL])
   ·exact did1_ok g hi _
 ·exact did1_ok g hi x
theorem doW_ok{W:Wo}(g:Good W){i:Nat}(hi:i<W.ses.length)(x:St):AnsOk (doW W i x).2:=by
 have h:=did_ok g hi x;unfold AnsOk at h⊢;exact h
theorem ans_size{a:An}(h:AnsOk a):a.text.size≤60:=by
 rcases h with⟨_,h⟩|⟨_,h⟩|⟨_,_,h⟩|⟨_,h⟩
 ·rw[h];decide
 ·rw[h];decide
 ·omega
 ·have:errL.all (fun t=>decide (t.size≤60))=true:=by decide+kernel
  simpa using List.all_eq_true.1 this _ h
open Go.Deep Go.Joins
section
variable {H:Type}{enc:TypeId × Value→H}{P:Program}{w:World}{base:Nat}{spare:Nat→Bool}{held:Bool}
theorem open_slice_fields{t e:TypeId}{fs:Array Field}{fuel:Nat}{cs:List Value}{x:DataW H × List MemPlace}(ht:P.underlying t=some (.slice e))(he:P.underlying e=some (.struct fs))
  (hone:oneCellFields P fs=true) (hC:P.cellsOf e=fs.size) (h:DataW.trod enc P w base spare held fuel t cs=some x):
  (cs=[.slice none 0 0]∧x=(.nil,[]))∨
  ∃(a:Addr) (len cap m:Nat) (D:Nat→DataW H) (Pl:Nat→List MemPlace),cs=[.slice (some a) len cap]∧base≤a.block∧len≤cap∧cap≤maxLen∧m=(if spare a.block then cap else len)∧
   x=(.slice ((List.range len).map D) ((List.range (m-len)).map fun j=>D (len+j)),MemPlace.row a (m*fs.size)++(List.range m).flatMap Pl)∧
   ∀i,i<m→∃(ys:List (DataW H × List MemPlace)) (n:Nat),D i= .agg (ys.map (·.1))∧Pl i=ys.flatMap (·.2)∧ys.length=fs.size∧
    ∀(j:Nat) (f:Field),fs[j]? =some f→∃(v:Value) (y:DataW H × List MemPlace),w.cell? (a.add (i*fs.size+j))=some v∧ys[j]? =some y∧DataW.trod enc P w base spare held n f.type [v]=some y:=by
 rcases open_slice ht h with h0|⟨a,len,cap,m,n,D,Pl,hcs,hb,hl,hm,hmm,hx,hi⟩
 ·exact .inl h0
 ·refine .inr ⟨a,len,cap,m,D,Pl,hcs,hb,hl,hm,hmm,by rw[hC]at hx;exact hx,fun i him=>?_⟩
  obtain⟨cs',hc,ht'⟩:=hi i him;rw[hC]at hc;obtain⟨ys,n',hn',hy,hlen,hyl,hf⟩:=DataW.trod_struct he ht';obtain⟨_,hcl,hat⟩:=World.cells?_some hc;simp only[Prod.mk.injEq]at hy;refine⟨ys,n',hy.1,hy.2,hyl,fun j f hj=>?_⟩;obtain⟨ho,hk⟩:=hone_of hone j f hj;have hjl:j<fs.size:=(Array.getElem?_eq_some_iff.1 hj).1;have hcell:=hat j hjl;have hv:cs'[j]? =some (cs'[j]'(by omega)):=List.getElem?_eq_getElem (by omega)
  have h1:=hf j f hj;rw[ho,hk]at h1;have hone':(cs'.drop j).take 1=[cs'[j]'(by omega)]:=by
   rw[List.drop_eq_getElem_cons (by omega)]
   rfl
  rw[hone']at h1;have hys:ys[j]? =some (ys[j]'(by omega)):=List.getElem?_eq_getElem (by omega)
  refine⟨_,_,?_,hys,h1.trans hys⟩;rw[←Go.Deep.add_add,hcell,hv]
end
instance :Inhabited Pr:=⟨Pr.no⟩
instance :Inhabited Se:=⟨Se.new⟩
section
variable {H:Type}{enc:TypeId × Value→H}{W:World}{base:Nat}{sp:Nat→Bool}{held:Bool}
theorem getElem_map_range{α:Type}(f:Nat→α)(n i:Nat)(h:i<((List.range n).map f).length):((List.range n).map f)[i]=f i:=by simp
end
end Go.Proofs.YtjbnfigpflambacGreatDoor
