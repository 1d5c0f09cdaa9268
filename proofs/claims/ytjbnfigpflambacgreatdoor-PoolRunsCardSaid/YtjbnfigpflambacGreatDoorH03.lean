/- Reference's Pairs and plus. Reference's at, with what stands there. The pool in memory: what one turn leaves. (pool).needs. Reference's plus. Conditions: those of each lemma. -/
import Derived.Test.YtjbnfigpflambacGreatDoorH02
namespace Go.Proofs.YtjbnfigpflambacGreatDoor
set_option maxRecDepth 100000
set_option maxHeartbeats 16000000
open _root_.Go.Proofs.Tryz
open Go.ChangeShapes Go.WideShapes Go.ChangeAt Go.RowKit
theorem refpairs_any(w:World)(v:Value)(l:List Pr)(h:PL w w.heap.size v l):
  Calls Tryz.prog 54 #[v] w fun e w'=>∃v',e= .returned v'∧OPL w' w.heap.size v' l∧Below w.heap.size w w':=by
 obtain⟨i0,hi0,hz0,hz1,hz2⟩:=info_parts pair_info;obtain⟨A,c,rfl,hc,hr,hf⟩:=h;have HR:=Hd hr;have HF:=Hd hf;clear hr hf;go_enter func54,ntmps54
 go_wp2_with (at_builtin;refine wpList_append_any _ rfl (.const (.slice none 0 0)) (.tmp 3) 27 rfl w.heap.size 60 i0 _ 2 32 underlying27 hi0 hz0 hz1 hz2 rfl (by decide) (.slice none 0 0) 0 [] rfl (World.ownsRow_nil _ _ _ _) w.heap.size A l.length c (cellsP l) rfl HR.out (cellsP_one l) (by have:=HF.out.1;unfold maxLen;omega) (by have:=HF.out.1;omega) leR ?_;intro v' w1 hown hgr hat)
 have hb:Below w.heap.size w w1:=(Below.refl w.heap.size w).grown hgr leR (fun k hk=>by simp[Value.ownBlock]at hk)
 have HO:=Hd (OPL.mk (by simpa using hown) HF.out)
 have HB:=Hd hb;clear hown hgr hat hb;go_wp2_with fail
 go_ret;exact⟨_,rfl,HO.out,HB.out⟩
def plF(key v:ByteArray)(s:Bool × List Pr)(p:Pr):Bool × List Pr:=
 let d:=s.1||!ltS p.k key
 let o:=if !s.1&&!ltS p.k key then s.2++[⟨key,v⟩]else s.2
 (d,if p.k=key then o else o++[p])
theorem plF_done(key v:ByteArray): ∀(l o:List Pr),l.foldl (plF key v) (true,o)=(true,o++l.filter fun q=>!decide (q.k=key))
 |[],o=>by simp
 |p::l,o=>by
  rw[List.foldl_cons];by_cases h:p.k=key
  ·rw[show plF key v (true,o) p=(true,o)by simp[plF,h],plF_done key v l o]
   simp[h]
  ·rw[show plF key v (true,o) p=(true,o++[p])by simp[plF,h],plF_done key v l (o++[p])]
   simp[h]
def plE(key v:ByteArray)(s:Bool × List Pr):List Pr:=if s.1 then s.2 else s.2++[⟨key,v⟩]
theorem plF_all(key v:ByteArray): ∀(l o:List Pr),plE key v (l.foldl (plF key v) (false,o))=o++plusP l key v
 |[],o=>by simp[plE,plusP]
 |p::l,o=>by
  rw[List.foldl_cons];by_cases h:ltS p.k key=true
  ·have hn:¬ p.k=key:=fun e=>by
    rw[e]at h;unfold ltS at h;rw[less_irrefl]at h;cases h
   rw[show plF key v (false,o) p=(false,o++[p])by simp[plF,h,hn],plF_all key v l (o++[p])]
   simp[plusP,h]
  ·have h':ltS p.k key=false:=by simpa using h
   by_cases e:p.k=key
   ·have h2:ltS key key=false:=by have:=h';rwa[e]at this
    rw[show plF key v (false,o) p=(true,o++[⟨key,v⟩])by simp[plF,h2,e],plF_done]
    simp[plE,plusP,h2,e]
   ·rw[show plF key v (false,o) p=(true,o++[⟨key,v⟩]++[p])by simp[plF,h',e],plF_done]
    simp[plE,plusP,h',e]
theorem plF_take{l:List Pr}{k:Nat}(h:k<l.length)(key v:ByteArray)(s:Bool × List Pr):(l.take (k+1)).foldl (plF key v) s=plF key v ((l.take k).foldl (plF key v) s) l[k]:=by
 rw[List.take_succ_eq_append_getElem h,List.foldl_append];rfl
theorem own_baseR{w:World}{B:Nat}{t:TypeId}{size n:Nat}{v:Value}{xs:List Value}(h:w.ownsRow B t size v n xs): ∀k,v.ownBlock=some k→B≤k:=by
 intro k hk;rcases h.2 with⟨rfl,_⟩|⟨g,cap,cur,rfl,hB,_⟩
 ·simp[Value.ownBlock]at hk
 ·have:g=k:=by simpa[Value.ownBlock]using hk
  omega
theorem cellsP_app(l m:List Pr):cellsP (l++m)=cellsP l++cellsP m:=by unfold cellsP;rw[List.flatMap_append]
theorem atP_here{l:List Pr}{key v:ByteArray}{k:Nat}(hk:k<l.length)(h:l[k]=⟨key,v⟩)(h2: ∀j (hj:j<l.length),j<k→¬ l[j].k=key):atP l key=some v:=by
 unfold atP;have e:l.find? (fun p=>decide (p.k=key))=some l[k]:=by
  rw[List.find?_eq_some_iff_getElem];refine⟨by rw[h];simp,k,hk,rfl,fun j hj=>?_⟩
  simpa using h2 j (by omega) hj
 rw[e,h];rfl
theorem refat_val(w:World)(v:Value)(l:List Pr)(key:ByteArray)(h:PL w w.heap.size v l):
  Calls Tryz.prog 151 #[v,.string key] w fun e w'=>e= .returned (.tuple #[.string ((atP l key).getD ⟨#[]⟩),.bool (hasK l key)])∧Below w.heap.size w w':=by
 obtain⟨A,c,rfl,hc,hr,hf⟩:=h;have hl:l.length≤4398046510976:=hf.1;have HR:=Hd hr;obtain⟨n,hN⟩: ∃n,l.length=n:=⟨_,rfl⟩;rw[hN]at hl⊢;have HN:=Hd hN;clear hr hf hc hN;go_enter func151,ntmps151
 go_wp2_with fail
 go_loopw [6] (fun i wx=>∃k:Nat,k≤n∧i= .int .i64 k∧Below w.heap.size w wx∧Hid (∀j (hj:j<l.length),j<k→¬ l[j].k=key)) (fun i _=>n-(intOf i).toNat)
 case atStart=>exact⟨0,Nat.zero_le _,rfl,bR,Hd (fun j _ hj=>absurd hj (Nat.not_lt_zero _))⟩
 case round=>
  obtain⟨k,hk,rfl,hb,HJ⟩:=hrel;by_cases hlt:k<n
  ·have g1:(k:Int)<(n:Int):=by omega
   have g2:(0:Int)≤(k:Int):=by omega
   have hkl:k<l.length:=by rw[HN.out];exact hlt
   have hr:=HR.out;obtain⟨ad,hA,_,x0,x1⟩:=pair_at (hr.below hb) hkl;subst hA;obtain⟨p,hp⟩: ∃p,l[k]=p:=⟨_,rfl⟩;rw[hp]at x0 x1;have HP:=Hd hp;have HB:=Hd hb;have HK:=Hd hkl;obtain⟨pk,pv⟩:=p;simp only at x0 x1;clear hp hr hb;by_cases he:pk=key
   ·subst he;have HF:=Hd (show hasK l pk=true from hasK_at HK.out (by rw[HP.out]))
    have HV:=Hd (show atP l pk=some pv from atP_here HK.out HP.out HJ.out);go_wp2_with fail
    go_ret2
    exact⟨by rw[HF.out,HV.out];rfl,HB.out⟩
   ·have n1:=ref_str_no he;have HF:=Hd (show∀j (hj:j<l.length),j<k+1→¬ l[j].k=key by
     intro j hj hjm;rcases Nat.lt_succ_iff_lt_or_eq.1 hjm with h|h
     ·exact HJ.out j hj h
     ·subst h;rw[HP.out];exact he)
    go_wp2_with fail
    go_roundw
    case rel=>exact⟨k+1,by omega,by go_num,HB.out,HF⟩
    case measure=>simp[intOf];omega
  ·have g1:(n:Int)≤(k:Int):=by omega
   have HF:=Hd (show hasK l key=false from hasK_no fun j hj=>HJ.out j hj (by rw[HN.out]at hj;omega))
   have HB:=Hd hb;have HV:=Hd (show atP l key=none by have h:=hasK_atP l key;rw[HF.out]at h;cases e:atP l key with|none=>rfl|some v=>rw[e]at h;cases h)
   clear hb;go_wp2_with fail
   go_ret2
   exact⟨by rw[HF.out,HV.out];rfl,HB.out⟩
section
variable {w w':World}{B p:Nat}{V:PV}{ks:List KV}{M:MV}
theorem PoolO.st_bytes(h:PoolO w B p V ks M)(c:Nat)(x:ByteArray)(s:Step p (.pool) w V w' V):
  PoolO w' B p V ks {M with bytes:=up M.bytes c x}:=by
 have hr:Role.ok (.pool):=trivial;have kp:=s.pairs h hr ty_pair;have kS:=s.pairs h hr ty_ses;obtain⟨cs,hs⟩:=h.ses;obtain⟨cb,hb⟩:=h.blk;exact⟨s.pool cb hb,
  h.lb,
  h.rows.keeps kp,
  ⟨cs,kS.own hs.own,hs.ses.keeps kp⟩,
  s.own h hr trivial (r:=.owner) (by simp) (by simp) rfl h.owner,
  s.own h hr trivial (r:=.known) (by simp) (by simp) rfl h.known,
  h.klen,
  fun s hs=>⟨(h.kn s hs).1.keeps kp,(h.kn s hs).2⟩,
  fun i hi=>s.own h hr (r:=.pend i) hi (by simp) (by simp) rfl (h.pend i hi),
  fun i hi=>s.own h hr (r:=.bad i) hi (by simp) (by simp) rfl (h.bad i hi),
  fun i hi=>(h.ow i hi).keeps kp,
  h.adr,
  fun i hi=>s.own h hr (r:=.buf i) hi (by simp) (by simp) rfl (h.buf i hi),
  s.own h hr trivial (r:=.wait) (by simp) (by simp) rfl h.wait,
  s.own h hr trivial (r:=.deeds) (by simp) (by simp) rfl h.deeds,
  s.apart h hr⟩
theorem PoolO.st_srv(h:PoolO w B p V ks M)(c:Nat)(x:Int)(s:Step p (.pool) w V w' V):
  PoolO w' B p V ks {M with srv:=up M.srv c x}:=by
 have hr:Role.ok (.pool):=trivial;have kp:=s.pairs h hr ty_pair;have kS:=s.pairs h hr ty_ses;obtain⟨cs,hs⟩:=h.ses;obtain⟨cb,hb⟩:=h.blk;exact⟨s.pool cb hb,
  h.lb,
  h.rows.keeps kp,
  ⟨cs,kS.own hs.own,hs.ses.keeps kp⟩,
  s.own h hr trivial (r:=.owner) (by simp) (by simp) rfl h.owner,
  s.own h hr trivial (r:=.known) (by simp) (by simp) rfl h.known,
  h.klen,
  fun s hs=>⟨(h.kn s hs).1.keeps kp,(h.kn s hs).2⟩,
  fun i hi=>s.own h hr (r:=.pend i) hi (by simp) (by simp) rfl (h.pend i hi),
  fun i hi=>s.own h hr (r:=.bad i) hi (by simp) (by simp) rfl (h.bad i hi),
  fun i hi=>(h.ow i hi).keeps kp,
  h.adr,
  fun i hi=>s.own h hr (r:=.buf i) hi (by simp) (by simp) rfl (h.buf i hi),
  s.own h hr trivial (r:=.wait) (by simp) (by simp) rfl h.wait,
  s.own h hr trivial (r:=.deeds) (by simp) (by simp) rfl h.deeds,
  s.apart h hr⟩
theorem PoolO.st_same(h:PoolO w B p V ks M)(s:Step p (.pool) w V w' V):
  PoolO w' B p V ks M:=by
 have hr:Role.ok (.pool):=trivial;have kp:=s.pairs h hr ty_pair;have kS:=s.pairs h hr ty_ses;obtain⟨cs,hs⟩:=h.ses;obtain⟨cb,hb⟩:=h.blk;exact⟨s.pool cb hb,
  h.lb,
  h.rows.keeps kp,
  ⟨cs,kS.own hs.own,hs.ses.keeps kp⟩,
  s.own h hr trivial (r:=.owner) (by simp) (by simp) rfl h.owner,
  s.own h hr trivial (r:=.known) (by simp) (by simp) rfl h.known,
  h.klen,
  fun s hs=>⟨(h.kn s hs).1.keeps kp,(h.kn s hs).2⟩,
  fun i hi=>s.own h hr (r:=.pend i) hi (by simp) (by simp) rfl (h.pend i hi),
  fun i hi=>s.own h hr (r:=.bad i) hi (by simp) (by simp) rfl (h.bad i hi),
  fun i hi=>(h.ow i hi).keeps kp,
  h.adr,
  fun i hi=>s.own h hr (r:=.buf i) hi (by simp) (by simp) rfl (h.buf i hi),
  s.own h hr trivial (r:=.wait) (by simp) (by simp) rfl h.wait,
  s.own h hr trivial (r:=.deeds) (by simp) (by simp) rfl h.deeds,
  s.apart h hr⟩
theorem PoolO.st_st(h:PoolO w B p V ks M)(c:Nat)(x:Int)(s:Step p (.pool) w V w' V):
  PoolO w' B p V ks {M with ow:=up M.ow c ⟨(M.ow c).set,(M.ow c).pre,(M.ow c).sav,x⟩}:=by
 have hr:Role.ok (.pool):=trivial;have kp:=s.pairs h hr ty_pair;have kS:=s.pairs h hr ty_ses;obtain⟨cs,hs⟩:=h.ses;obtain⟨cb,hb⟩:=h.blk;exact⟨s.pool cb hb,
  h.lb,
  h.rows.keeps kp,
  ⟨cs,kS.own hs.own,hs.ses.keeps kp⟩,
  s.own h hr trivial (r:=.owner) (by simp) (by simp) rfl h.owner,
  s.own h hr trivial (r:=.known) (by simp) (by simp) rfl h.known,
  h.klen,
  fun s hs=>⟨(h.kn s hs).1.keeps kp,(h.kn s hs).2⟩,
  fun i hi=>s.own h hr (r:=.pend i) hi (by simp) (by simp) rfl (h.pend i hi),
  fun i hi=>s.own h hr (r:=.bad i) hi (by simp) (by simp) rfl (h.bad i hi),
  fun i hi=>by
   by_cases e:i=c
   ·subst e;show OwR w' B _ _ _ (up M.ow i _ i);rw[up_at];exact⟨(h.ow i hi).set.keeps kp,(h.ow i hi).pre.keeps kp,(h.ow i hi).sav.keeps kp⟩
   ·show OwR w' B _ _ _ (up M.ow c _ i);rw[up_off _ _ e];exact(h.ow i hi).keeps kp,
  h.adr,
  fun i hi=>s.own h hr (r:=.buf i) hi (by simp) (by simp) rfl (h.buf i hi),
  s.own h hr trivial (r:=.wait) (by simp) (by simp) rfl h.wait,
  s.own h hr trivial (r:=.deeds) (by simp) (by simp) rfl h.deeds,
  s.apart h hr⟩
theorem PoolO.st_set(h:PoolO w B p V ks M)(c:Nat){v:Value}{l:List Pr}(ho:OPL w' B v l)(s:Step p (.pool) w V w' {V with set:=up V.set c v}):
  PoolO w' B p {V with set:=up V.set c v} ks {M with ow:=up M.ow c ⟨l,(M.ow c).pre,(M.ow c).sav,(M.ow c).st⟩}:=by
 have hr:Role.ok (.pool):=trivial;have kp:=s.pairs h hr ty_pair;have kS:=s.pairs h hr ty_ses;obtain⟨cs,hs⟩:=h.ses;obtain⟨cb,hb⟩:=h.blk;exact⟨s.pool cb hb,
  h.lb,
  h.rows.keeps kp,
  ⟨cs,kS.own hs.own,hs.ses.keeps kp⟩,
  s.own h hr trivial (r:=.owner) (by simp) (by simp) rfl h.owner,
  s.own h hr trivial (r:=.known) (by simp) (by simp) rfl h.known,
  h.klen,
  fun s hs=>⟨(h.kn s hs).1.keeps kp,(h.kn s hs).2⟩,
  fun i hi=>s.own h hr (r:=.pend i) hi (by simp) (by simp) rfl (h.pend i hi),
  fun i hi=>s.own h hr (r:=.bad i) hi (by simp) (by simp) rfl (h.bad i hi),
  fun i hi=>by
   by_cases e:i=c
   ·subst e;show OwR w' B (up V.set i v i) (V.pre i) (V.sav i) (up M.ow i _ i);rw[up_at,up_at];exact⟨ho,(h.ow i hi).pre.keeps kp,(h.ow i hi).sav.keeps kp⟩
   ·show OwR w' B (up V.set c v i) (V.pre i) (V.sav i) (up M.ow c _ i);rw[up_off _ _ e,up_off _ _ e];exact(h.ow i hi).keeps kp,
  h.adr,
  fun i hi=>s.own h hr (r:=.buf i) hi (by simp) (by simp) rfl (h.buf i hi),
  s.own h hr trivial (r:=.wait) (by simp) (by simp) rfl h.wait,
  s.own h hr trivial (r:=.deeds) (by simp) (by simp) rfl h.deeds,
  s.apart h hr⟩
theorem PoolO.st_pre(h:PoolO w B p V ks M)(c:Nat){v:Value}{l:List Pr}(ho:OPL w' B v l)(s:Step p (.pool) w V w' {V with pre:=up V.pre c v}):
  PoolO w' B p {V with pre:=up V.pre c v} ks {M with ow:=up M.ow c ⟨(M.ow c).set,l,(M.ow c).sav,(M.ow c).st⟩}:=by
 have hr:Role.ok (.pool):=trivial;have kp:=s.pairs h hr ty_pair;have kS:=s.pairs h hr ty_ses;obtain⟨cs,hs⟩:=h.ses;obtain⟨cb,hb⟩:=h.blk;exact⟨s.pool cb hb,
  h.lb,
  h.rows.keeps kp,
  ⟨cs,kS.own hs.own,hs.ses.keeps kp⟩,
  s.own h hr trivial (r:=.owner) (by simp) (by simp) rfl h.owner,
  s.own h hr trivial (r:=.known) (by simp) (by simp) rfl h.known,
  h.klen,
  fun s hs=>⟨(h.kn s hs).1.keeps kp,(h.kn s hs).2⟩,
  fun i hi=>s.own h hr (r:=.pend i) hi (by simp) (by simp) rfl (h.pend i hi),
  fun i hi=>s.own h hr (r:=.bad i) hi (by simp) (by simp) rfl (h.bad i hi),
  fun i hi=>by
   by_cases e:i=c
   ·subst e;show OwR w' B (V.set i) (up V.pre i v i) (V.sav i) (up M.ow i _ i);rw[up_at,up_at];exact⟨(h.ow i hi).set.keeps kp,ho,(h.ow i hi).sav.keeps kp⟩
   ·show OwR w' B (V.set i) (up V.pre c v i) (V.sav i) (up M.ow c _ i);rw[up_off _ _ e,up_off _ _ e];exact(h.ow i hi).keeps kp,
  h.adr,
  fun i hi=>s.own h hr (r:=.buf i) hi (by simp) (by simp) rfl (h.buf i hi),
  s.own h hr trivial (r:=.wait) (by simp) (by simp) rfl h.wait,
  s.own h hr trivial (r:=.deeds) (by simp) (by simp) rfl h.deeds,
  s.apart h hr⟩
theorem PoolO.st_sav(h:PoolO w B p V ks M)(c:Nat){v:Value}{l:List Pr}(ho:OPL w' B v l)(s:Step p (.pool) w V w' {V with sav:=up V.sav c v}):
  PoolO w' B p {V with sav:=up V.sav c v} ks {M with ow:=up M.ow c ⟨(M.ow c).set,(M.ow c).pre,l,(M.ow c).st⟩}:=by
 have hr:Role.ok (.pool):=trivial;have kp:=s.pairs h hr ty_pair;have kS:=s.pairs h hr ty_ses;obtain⟨cs,hs⟩:=h.ses;obtain⟨cb,hb⟩:=h.blk;exact⟨s.pool cb hb,
  h.lb,
  h.rows.keeps kp,
  ⟨cs,kS.own hs.own,hs.ses.keeps kp⟩,
  s.own h hr trivial (r:=.owner) (by simp) (by simp) rfl h.owner,
  s.own h hr trivial (r:=.known) (by simp) (by simp) rfl h.known,
  h.klen,
  fun s hs=>⟨(h.kn s hs).1.keeps kp,(h.kn s hs).2⟩,
  fun i hi=>s.own h hr (r:=.pend i) hi (by simp) (by simp) rfl (h.pend i hi),
  fun i hi=>s.own h hr (r:=.bad i) hi (by simp) (by simp) rfl (h.bad i hi),
  fun i hi=>by
   by_cases e:i=c
   ·subst e;show OwR w' B (V.set i) (V.pre i) (up V.sav i v i) (up M.ow i _ i);rw[up_at,up_at];exact⟨(h.ow i hi).set.keeps kp,(h.ow i hi).pre.keeps kp,ho⟩
   ·show OwR w' B (V.set i) (V.pre i) (up V.sav c v i) (up M.ow c _ i);rw[up_off _ _ e,up_off _ _ e];exact(h.ow i hi).keeps kp,
  h.adr,
  fun i hi=>s.own h hr (r:=.buf i) hi (by simp) (by simp) rfl (h.buf i hi),
  s.own h hr trivial (r:=.wait) (by simp) (by simp) rfl h.wait,
  s.own h hr trivial (r:=.deeds) (by simp) (by simp) rfl h.deeds,
  s.apart h hr⟩
theorem PoolO.st_rows(h:PoolO w B p V ks M){v:Value}{l:List Pr}(ho:OPL w' B v l)(s:Step p (.pool) w V w' {V with rows:=v}):
  PoolO w' B p {V with rows:=v} ks {M with w:=⟨l,M.w.ses⟩}:=by
 have hr:Role.ok (.pool):=trivial;have kp:=s.pairs h hr ty_pair;have kS:=s.pairs h hr ty_ses;obtain⟨cs,hs⟩:=h.ses;obtain⟨cb,hb⟩:=h.blk;exact⟨s.pool cb hb,
  h.lb,
  ho,
  ⟨cs,kS.own hs.own,hs.ses.keeps kp⟩,
  s.own h hr trivial (r:=.owner) (by simp) (by simp) rfl h.owner,
  s.own h hr trivial (r:=.known) (by simp) (by simp) rfl h.known,
  h.klen,
  fun s hs=>⟨(h.kn s hs).1.keeps kp,(h.kn s hs).2⟩,
  fun i hi=>s.own h hr (r:=.pend i) hi (by simp) (by simp) rfl (h.pend i hi),
  fun i hi=>s.own h hr (r:=.bad i) hi (by simp) (by simp) rfl (h.bad i hi),
  fun i hi=>(h.ow i hi).keeps kp,
  h.adr,
  fun i hi=>s.own h hr (r:=.buf i) hi (by simp) (by simp) rfl (h.buf i hi),
  s.own h hr trivial (r:=.wait) (by simp) (by simp) rfl h.wait,
  s.own h hr trivial (r:=.deeds) (by simp) (by simp) rfl h.deeds,
  s.apart h hr⟩
theorem PoolO.st_ses(h:PoolO w B p V ks M){v:Value}{l:List Se}(ho: ∃cs,OSL w' B v l cs)(s:Step p (.pool) w V w' {V with ses:=v}):
  PoolO w' B p {V with ses:=v} ks {M with w:=⟨M.w.rows,l⟩}:=by
 have hr:Role.ok (.pool):=trivial;have kp:=s.pairs h hr ty_pair;have kS:=s.pairs h hr ty_ses;obtain⟨cs,hs⟩:=h.ses;obtain⟨cb,hb⟩:=h.blk;exact⟨s.pool cb hb,
  h.lb,
  h.rows.keeps kp,
  ho,
  s.own h hr trivial (r:=.owner) (by simp) (by simp) rfl h.owner,
  s.own h hr trivial (r:=.known) (by simp) (by simp) rfl h.known,
  h.klen,
  fun s hs=>⟨(h.kn s hs).1.keeps kp,(h.kn s hs).2⟩,
  fun i hi=>s.own h hr (r:=.pend i) hi (by simp) (by simp) rfl (h.pend i hi),
  fun i hi=>s.own h hr (r:=.bad i) hi (by simp) (by simp) rfl (h.bad i hi),
  fun i hi=>(h.ow i hi).keeps kp,
  h.adr,
  fun i hi=>s.own h hr (r:=.buf i) hi (by simp) (by simp) rfl (h.buf i hi),
  s.own h hr trivial (r:=.wait) (by simp) (by simp) rfl h.wait,
  s.own h hr trivial (r:=.deeds) (by simp) (by simp) rfl h.deeds,
  s.apart h hr⟩
theorem PoolO.st_adr(h:PoolO w B p V ks M)(c:Nat)(s:Step p (.pool) w V w' {V with adr:=up V.adr c (.pointer (some ⟨p,6+c*10+8,none⟩))}):
  PoolO w' B p {V with adr:=up V.adr c (.pointer (some ⟨p,6+c*10+8,none⟩))} ks M:=by
 have hr:Role.ok (.pool):=trivial;have kp:=s.pairs h hr ty_pair;have kS:=s.pairs h hr ty_ses;obtain⟨cs,hs⟩:=h.ses;obtain⟨cb,hb⟩:=h.blk;exact⟨s.pool cb hb,
  h.lb,
  h.rows.keeps kp,
  ⟨cs,kS.own hs.own,hs.ses.keeps kp⟩,
  s.own h hr trivial (r:=.owner) (by simp) (by simp) rfl h.owner,
  s.own h hr trivial (r:=.known) (by simp) (by simp) rfl h.known,
  h.klen,
  fun s hs=>⟨(h.kn s hs).1.keeps kp,(h.kn s hs).2⟩,
  fun i hi=>s.own h hr (r:=.pend i) hi (by simp) (by simp) rfl (h.pend i hi),
  fun i hi=>s.own h hr (r:=.bad i) hi (by simp) (by simp) rfl (h.bad i hi),
  fun i hi=>(h.ow i hi).keeps kp,
  fun i hi=>by
   by_cases e:i=c
   ·subst e;exact .inr (up_at _ _ _)
   ·show up V.adr c _ i=_∨up V.adr c _ i=_;rw[up_off _ _ e];exact h.adr i hi,
  fun i hi=>s.own h hr (r:=.buf i) hi (by simp) (by simp) rfl (h.buf i hi),
  s.own h hr trivial (r:=.wait) (by simp) (by simp) rfl h.wait,
  s.own h hr trivial (r:=.deeds) (by simp) (by simp) rfl h.deeds,
  s.apart h hr⟩
theorem PoolO.st_pend(h:PoolO w B p V ks M){c:Nat}(hc:c<6){v:Value}{l:List St}(ho:OwnO w' B 41 3 v l.length (stV l))(s:Step p (.pend c) w V w' {V with pend:=up V.pend c v}):
  PoolO w' B p {V with pend:=up V.pend c v} ks {M with pend:=up M.pend c l}:=by
 have hr:Role.ok (.pend c):=hc;have kp:=s.pairs h hr ty_pair;have kS:=s.pairs h hr ty_ses;obtain⟨cs,hs⟩:=h.ses;obtain⟨cb,hb⟩:=h.blk;exact⟨s.pool cb hb,
  h.lb,
  h.rows.keeps kp,
  ⟨cs,kS.own hs.own,hs.ses.keeps kp⟩,
  s.own h hr trivial (r:=.owner) (by simp) (by simp) rfl h.owner,
  s.own h hr trivial (r:=.known) (by simp) (by simp) rfl h.known,
  h.klen,
  fun s hs=>⟨(h.kn s hs).1.keeps kp,(h.kn s hs).2⟩,
  fun i hi=>by
   by_cases e:i=c
   ·subst e;show OwnO w' B _ 3 (up V.pend i v i) (up M.pend i l i).length (stV (up M.pend i l i));rw[up_at,up_at];exact ho
   ·show OwnO w' B _ 3 (up V.pend c v i) (up M.pend c l i).length (stV (up M.pend c l i));rw[up_off _ _ e,up_off _ _ e];exact s.own h hr (r:=.pend i) hi (by simp[e]) (by simp) rfl (h.pend i hi),
  fun i hi=>s.own h hr (r:=.bad i) hi (by simp) (by simp) rfl (h.bad i hi),
  fun i hi=>(h.ow i hi).keeps kp,
  h.adr,
  fun i hi=>s.own h hr (r:=.buf i) hi (by simp) (by simp) rfl (h.buf i hi),
  s.own h hr trivial (r:=.wait) (by simp) (by simp) rfl h.wait,
  s.own h hr trivial (r:=.deeds) (by simp) (by simp) rfl h.deeds,
  s.apart h hr⟩
theorem PoolO.st_bad(h:PoolO w B p V ks M){c:Nat}(hc:c<6){v:Value}{l:List Bool}(ho:OwnO w' B 4 1 v l.length (badV l))(s:Step p (.bad c) w V w' {V with bad:=up V.bad c v}):
  PoolO w' B p {V with bad:=up V.bad c v} ks {M with bad:=up M.bad c l}:=by
 have hr:Role.ok (.bad c):=hc;have kp:=s.pairs h hr ty_pair;have kS:=s.pairs h hr ty_ses;obtain⟨cs,hs⟩:=h.ses;obtain⟨cb,hb⟩:=h.blk;exact⟨s.pool cb hb,
  h.lb,
  h.rows.keeps kp,
  ⟨cs,kS.own hs.own,hs.ses.keeps kp⟩,
  s.own h hr trivial (r:=.owner) (by simp) (by simp) rfl h.owner,
  s.own h hr trivial (r:=.known) (by simp) (by simp) rfl h.known,
  h.klen,
  fun s hs=>⟨(h.kn s hs).1.keeps kp,(h.kn s hs).2⟩,
  fun i hi=>s.own h hr (r:=.pend i) hi (by simp) (by simp) rfl (h.pend i hi),
  fun i hi=>by
   by_cases e:i=c
   ·subst e;show OwnO w' B _ 1 (up V.bad i v i) (up M.bad i l i).length (badV (up M.bad i l i));rw[up_at,up_at];exact ho
   ·show OwnO w' B _ 1 (up V.bad c v i) (up M.bad c l i).length (badV (up M.bad c l i));rw[up_off _ _ e,up_off _ _ e];exact s.own h hr (r:=.bad i) hi (by simp[e]) (by simp) rfl (h.bad i hi),
  fun i hi=>(h.ow i hi).keeps kp,
  h.adr,
  fun i hi=>s.own h hr (r:=.buf i) hi (by simp) (by simp) rfl (h.buf i hi),
  s.own h hr trivial (r:=.wait) (by simp) (by simp) rfl h.wait,
  s.own h hr trivial (r:=.deeds) (by simp) (by simp) rfl h.deeds,
  s.apart h hr⟩
theorem PoolO.st_buf(h:PoolO w B p V ks M){c:Nat}(hc:c<6){v:Value}{t:ByteArray}(ho:OwnO w' B 5 1 v t.size (Lib.strCells t))(s:Step p (.buf c) w V w' {V with buf:=up V.buf c v}):
  PoolO w' B p {V with buf:=up V.buf c v} ks {M with sent:=up M.sent c t}:=by
 have hr:Role.ok (.buf c):=hc;have kp:=s.pairs h hr ty_pair;have kS:=s.pairs h hr ty_ses;obtain⟨cs,hs⟩:=h.ses;obtain⟨cb,hb⟩:=h.blk;exact⟨s.pool cb hb,
  h.lb,
  h.rows.keeps kp,
  ⟨cs,kS.own hs.own,hs.ses.keeps kp⟩,
  s.own h hr trivial (r:=.owner) (by simp) (by simp) rfl h.owner,
  s.own h hr trivial (r:=.known) (by simp) (by simp) rfl h.known,
  h.klen,
  fun s hs=>⟨(h.kn s hs).1.keeps kp,(h.kn s hs).2⟩,
  fun i hi=>s.own h hr (r:=.pend i) hi (by simp) (by simp) rfl (h.pend i hi),
  fun i hi=>s.own h hr (r:=.bad i) hi (by simp) (by simp) rfl (h.bad i hi),
  fun i hi=>(h.ow i hi).keeps kp,
  h.adr,
  fun i hi=>by
   by_cases e:i=c
   ·subst e;show OwnO w' B _ 1 (up V.buf i v i) (up M.sent i t i).size (Lib.strCells (up M.sent i t i));rw[up_at,up_at];exact ho
   ·show OwnO w' B _ 1 (up V.buf c v i) (up M.sent c t i).size (Lib.strCells (up M.sent c t i));rw[up_off _ _ e,up_off _ _ e];exact s.own h hr (r:=.buf i) hi (by simp[e]) (by simp) rfl (h.buf i hi),
  s.own h hr trivial (r:=.wait) (by simp) (by simp) rfl h.wait,
  s.own h hr trivial (r:=.deeds) (by simp) (by simp) rfl h.deeds,
  s.apart h hr⟩
theorem PoolO.st_owner(h:PoolO w B p V ks M){v:Value}{l:List Int}(ho:OwnO w' B 3 1 v l.length (intV l))(s:Step p (.owner) w V w' {V with owner:=v}):
  PoolO w' B p {V with owner:=v} ks {M with owner:=l}:=by
 have hr:Role.ok (.owner):=trivial;have kp:=s.pairs h hr ty_pair;have kS:=s.pairs h hr ty_ses;obtain⟨cs,hs⟩:=h.ses;obtain⟨cb,hb⟩:=h.blk;exact⟨s.pool cb hb,
  h.lb,
  h.rows.keeps kp,
  ⟨cs,kS.own hs.own,hs.ses.keeps kp⟩,
  ho,
  s.own h hr trivial (r:=.known) (by simp) (by simp) rfl h.known,
  h.klen,
  fun s hs=>⟨(h.kn s hs).1.keeps kp,(h.kn s hs).2⟩,
  fun i hi=>s.own h hr (r:=.pend i) hi (by simp) (by simp) rfl (h.pend i hi),
  fun i hi=>s.own h hr (r:=.bad i) hi (by simp) (by simp) rfl (h.bad i hi),
  fun i hi=>(h.ow i hi).keeps kp,
  h.adr,
  fun i hi=>s.own h hr (r:=.buf i) hi (by simp) (by simp) rfl (h.buf i hi),
  s.own h hr trivial (r:=.wait) (by simp) (by simp) rfl h.wait,
  s.own h hr trivial (r:=.deeds) (by simp) (by simp) rfl h.deeds,
  s.apart h hr⟩
theorem PoolO.st_wait(h:PoolO w B p V ks M){v:Value}{l:List Nat}(ho:OwnO w' B 3 1 v l.length (natV l))(s:Step p (.wait) w V w' {V with wait:=v}):
  PoolO w' B p {V with wait:=v} ks {M with wait:=l}:=by
 have hr:Role.ok (.wait):=trivial;have kp:=s.pairs h hr ty_pair;have kS:=s.pairs h hr ty_ses;obtain⟨cs,hs⟩:=h.ses;obtain⟨cb,hb⟩:=h.blk;exact⟨s.pool cb hb,
  h.lb,
  h.rows.keeps kp,
  ⟨cs,kS.own hs.own,hs.ses.keeps kp⟩,
  s.own h hr trivial (r:=.owner) (by simp) (by simp) rfl h.owner,
  s.own h hr trivial (r:=.known) (by simp) (by simp) rfl h.known,
  h.klen,
  fun s hs=>⟨(h.kn s hs).1.keeps kp,(h.kn s hs).2⟩,
  fun i hi=>s.own h hr (r:=.pend i) hi (by simp) (by simp) rfl (h.pend i hi),
  fun i hi=>s.own h hr (r:=.bad i) hi (by simp) (by simp) rfl (h.bad i hi),
  fun i hi=>(h.ow i hi).keeps kp,
  h.adr,
  fun i hi=>s.own h hr (r:=.buf i) hi (by simp) (by simp) rfl (h.buf i hi),
  ho,
  s.own h hr trivial (r:=.deeds) (by simp) (by simp) rfl h.deeds,
  s.apart h hr⟩
theorem PoolO.st_deeds(h:PoolO w B p V ks M){v:Value}{l:List De}(ho:OwnO w' B 71 7 v l.length (deV l))(s:Step p (.deeds) w V w' {V with deeds:=v}):
  PoolO w' B p {V with deeds:=v} ks {M with deeds:=l}:=by
 have hr:Role.ok (.deeds):=trivial;have kp:=s.pairs h hr ty_pair;have kS:=s.pairs h hr ty_ses;obtain⟨cs,hs⟩:=h.ses;obtain⟨cb,hb⟩:=h.blk;exact⟨s.pool cb hb,
  h.lb,
  h.rows.keeps kp,
  ⟨cs,kS.own hs.own,hs.ses.keeps kp⟩,
  s.own h hr trivial (r:=.owner) (by simp) (by simp) rfl h.owner,
  s.own h hr trivial (r:=.known) (by simp) (by simp) rfl h.known,
  h.klen,
  fun s hs=>⟨(h.kn s hs).1.keeps kp,(h.kn s hs).2⟩,
  fun i hi=>s.own h hr (r:=.pend i) hi (by simp) (by simp) rfl (h.pend i hi),
  fun i hi=>s.own h hr (r:=.bad i) hi (by simp) (by simp) rfl (h.bad i hi),
  fun i hi=>(h.ow i hi).keeps kp,
  h.adr,
  fun i hi=>s.own h hr (r:=.buf i) hi (by simp) (by simp) rfl (h.buf i hi),
  s.own h hr trivial (r:=.wait) (by simp) (by simp) rfl h.wait,
  ho,
  s.apart h hr⟩
theorem PoolO.st_known(h:PoolO w B p V ks M){v:Value}{l:List KV}{m:List Ow}(ho:OwnO w' B 92 4 v l.length (l.flatMap KV.cells))(hl:l.length=m.length)(hk: ∀s (hs:s<l.length),OwR w' B l[s].set l[s].pre l[s].sav (m.getD s Ow.new)∧l[s].st=(m.getD s Ow.new).st)(s:Step p (.known) w V w' {V with known:=v}):
  PoolO w' B p {V with known:=v} l {M with known:=m}:=by
 have hr:Role.ok (.known):=trivial;have kp:=s.pairs h hr ty_pair;have kS:=s.pairs h hr ty_ses;obtain⟨cs,hs⟩:=h.ses;obtain⟨cb,hb⟩:=h.blk;exact⟨s.pool cb hb,
  h.lb,
  h.rows.keeps kp,
  ⟨cs,kS.own hs.own,hs.ses.keeps kp⟩,
  s.own h hr trivial (r:=.owner) (by simp) (by simp) rfl h.owner,
  ho,
  hl,
  hk,
  fun i hi=>s.own h hr (r:=.pend i) hi (by simp) (by simp) rfl (h.pend i hi),
  fun i hi=>s.own h hr (r:=.bad i) hi (by simp) (by simp) rfl (h.bad i hi),
  fun i hi=>(h.ow i hi).keeps kp,
  h.adr,
  fun i hi=>s.own h hr (r:=.buf i) hi (by simp) (by simp) rfl (h.buf i hi),
  s.own h hr trivial (r:=.wait) (by simp) (by simp) rfl h.wait,
  s.own h hr trivial (r:=.deeds) (by simp) (by simp) rfl h.deeds,
  s.apart h hr⟩
end
theorem PoolR.pend0{w:World}{B p:Nat}{V:PV}{ks:List KV}{M:MV}(h:PoolR w B p V ks M){c:Nat}(hc:c<6){x:St}{xs:List St}(hx:M.pend c=x::xs):
  ∃g off cap,w.cell? ⟨p,6+c*10+1,none⟩=some (.slice (some ⟨g,off,none⟩) (xs.length+1) cap)∧xs.length+1≤cap∧V.pend c= .slice (some ⟨g,off,none⟩) (xs.length+1) cap∧
   w.cell? ⟨g,off,none⟩=some (.int .i64 x.k)∧w.cell? ⟨g,off+1,none⟩=some (.string x.key)∧w.cell? ⟨g,off+2,none⟩=some (.string x.val):=by
 have ho:=h.o.pend c hc;rw[hx]at ho;rcases ho.2 with⟨_,e0⟩|⟨g,off,cap,cur,e,_,hg,hn,hm,_⟩
 ·simp at e0
 obtain⟨A,c',e',_,hr⟩:=ho.reads;obtain⟨ad,hA,_,hcell⟩:=hr.2 (by simp)
 have e2:=e.symm.trans e';injection e2 with e2 _ _;rw[hA]at e2;injection e2 with e2;subst e2;refine⟨g,off,cap,?_,hn,e,?_,?_,?_⟩
 ·have:=h.b.cellC (k:=1) hc (by decide)
  rw[this];exact congrArg some e
 ·have:=hcell 0 (.int .i64 x.k) rfl;rw[Addr.add_lit]at this;exact this
 ·have:=hcell 1 (.string x.key) rfl;rw[Addr.add_lit]at this;exact this
 ·have:=hcell 2 (.string x.val) rfl;rw[Addr.add_lit]at this;exact this
theorem PoolR.bad0{w:World}{B p:Nat}{V:PV}{ks:List KV}{M:MV}(h:PoolR w B p V ks M){c:Nat}(hc:c<6){x:Bool}{xs:List Bool}(hx:M.bad c=x::xs):
  ∃g off cap,w.cell? ⟨p,6+c*10+2,none⟩=some (.slice (some ⟨g,off,none⟩) (xs.length+1) cap)∧xs.length+1≤cap∧V.bad c= .slice (some ⟨g,off,none⟩) (xs.length+1) cap∧w.cell? ⟨g,off,none⟩=some (.bool x):=by
 have ho:=h.o.bad c hc;rw[hx]at ho;rcases ho.2 with⟨_,e0⟩|⟨g,off,cap,cur,e,_,hg,hn,hm,_⟩
 ·simp at e0
 obtain⟨A,c',e',_,hr⟩:=ho.reads;obtain⟨ad,hA,_,hcell⟩:=hr.2 (by simp)
 have e2:=e.symm.trans e';injection e2 with e2 _ _;rw[hA]at e2;injection e2 with e2;subst e2;refine⟨g,off,cap,?_,hn,e,?_⟩
 ·have:=h.b.cellC (k:=2) hc (by decide)
  rw[this];exact congrArg some e
 ·have:=hcell 0 (.bool x) rfl;rw[Addr.add_lit]at this;exact this
def needsB(mode k:Int)(bad:Bool):Bool:=!bad&&(decide (mode≠3)||decide (k≠1))
theorem needs_any(w:World)(B p:Nat)(V:PV)(ks:List KV)(M:MV)(h:PoolR w B p V ks M)(c:Nat)(hc:c<6)(x:St)(xs:List St)(hx:M.pend c=x::xs)(y:Bool)(ys:List Bool)(hy:M.bad c=y::ys):
  Calls Tryz.prog 74 #[.pointer (some ⟨p,0,none⟩),.int .i64 (c:Nat)] w fun e w'=>e= .returned (.bool (needsB M.mode x.k y))∧w'=w:=by
 obtain⟨g,off,cap,e1,n1,_,d0,_,_⟩:=h.pend0 hc hx;obtain⟨g',off',cap',e2,n2,_,d1⟩:=h.bad0 hc hy;have m0:w.cell? ⟨p,0,none⟩=some (.int .i64 M.mode):=h.b.cell (j:=0) (by decide)
 have g1:(c:Int)<6:=by omega
 have g2:(0:Int)≤(c:Int):=by omega
 obtain⟨k,hk⟩: ∃k,x.k=k:=⟨_,rfl⟩;obtain⟨md,hmd⟩: ∃k,M.mode=k:=⟨_,rfl⟩;rw[hk]at d0⊢;rw[hmd]at m0⊢;have l1:(0:Int)<((xs.length+1:Nat):Int):=by omega
 have l2:(0:Int)<((ys.length+1:Nat):Int):=by omega
 obtain⟨n,hn⟩: ∃n,xs.length+1=n:=⟨_,rfl⟩;obtain⟨m,hm⟩: ∃n,ys.length+1=n:=⟨_,rfl⟩;rw[hn]at e1 n1 l1;rw[hm]at e2 n2 l2;clear h hx hy hk hmd hn hm;unfold needsB;cases y with
 |true=>
  go_enter func74,ntmps74
  go_wp2_with fail
  go_ret;exact⟨by simp,rfl⟩
 |false=>
  by_cases h3:md=3
  ·subst h3;by_cases h4:k=1
   ·subst h4;go_enter func74,ntmps74
    go_wp2_with fail
    go_ret;exact⟨by simp,rfl⟩
   ·have e4:(k !=1)=true:=by simpa using h4
    have e5:(!(k==1))=true:=e4;go_enter func74,ntmps74
    go_wp2_with fail
    go_ret;exact⟨by simp[h4],rfl⟩
  ·have e4:(md !=3)=true:=by simpa using h3
   have e5:(!(md==3))=true:=e4;go_enter func74,ntmps74
   go_wp2_with fail
   go_ret;exact⟨by simp[h3],rfl⟩
theorem OwnO.put{w:World}{B:Nat}{e:TypeId}{size n g off cap:Nat}{xs:List Value}(h:OwnO w B e size (.slice (some ⟨g,off,none⟩) n cap) n xs)(j:Nat)(u:Value):OwnO (w.setCell ⟨g,off+j,none⟩ u) B e size (.slice (some ⟨g,off,none⟩) n cap) n (xs.set j u):=by
 refine⟨by rw[List.length_set];exact h.1,?_⟩
 rcases h.2 with⟨e0,_⟩|⟨g',off',cap',cur,e0,hB,hg,hn,hm,hc,hx⟩
 ·cases e0
 ·injection e0 with e1 e2 e3;injection e1 with e1;injection e1 with e1 e4;subst e1 e3 e4;refine .inr ⟨g,off,cap,cur.setIfInBounds (off+j) u,rfl,hB,?_,hn,hm,by rw[Array.size_setIfInBounds];exact hc,?_⟩
  ·exact Blk.set_ (w:=w) (g:=g) (cs:=cur) hg (off+j) u
  ·rw[Array.toList_setIfInBounds,List.drop_set,if_neg (by omega),List.take_set,hx]
   congr 1
   omega
section
variable {w w1 w' u:World}{B p:Nat}{V V':PV}{ks:List KV}{M M':MV}{r0:Role}
theorem Step.put(h:PoolO w B p V ks M)(hr0:r0.ok)(hp:r0≠.pool){g:Nat}(hg:V.at p r0=some g)(j:Nat)(x:Value):Step p r0 w V (w.setCell ⟨g,j,none⟩ x) V:=
 ⟨rfl,rfl,rfl,by simp[World.setCell],fun k _ _ hn=>Below.heap_setCell w ⟨g,j,none⟩ x k (fun e=>hn (by rw[hg,e])),fun _ _=>rfl,fun _ h=>.inl h,fun cs hb=>⟨cs,hb.far (fun e=>hp (h.apart r0 .pool p hr0 trivial (by rw[hg];exact congrArg some e.symm) rfl)) x⟩⟩
theorem Step.trans(s:Step p r0 w V w1 V)(t:Step p r0 w1 V w' V'):Step p r0 w V w' V':=
 ⟨t.os.trans s.os,t.tape.trans s.tape,t.output.trans s.output,Nat.le_trans s.size t.size,fun k hk h1 h2=>(t.block k (Nat.lt_of_lt_of_le hk s.size) h1 h2).trans (s.block k hk h1 h2),t.same,
  fun k hk=>(t.new k hk).imp id fun h=>Nat.le_trans s.size h,fun cs h=>by
   obtain⟨cs',h'⟩:=s.pool cs h;exact t.pool cs' h'⟩
theorem Step.cell(x:Value)(j:Nat)(same: ∀r:Role,V'.at p r=V.at p r):Step p .pool w V (w.setCell ⟨p,j,none⟩ x) V':=
 Step.store w V p j x .pool (fun r _=>same r) fun k hk=>.inl (by rw[←same .pool];exact hk)
end
theorem flat_set{α:Type}(f:α→List Value)(m:Nat)(hf: ∀x,(f x).length=m): ∀(l:List α) (i:Nat) (x:α),i<l.length→(l.set i x).flatMap f=(l.flatMap f).take (i*m)++f x++(l.flatMap f).drop (i*m+m)
 |[],i,x,h=>by simp at h
 |a::l,0,x,_=>by simp[hf]
 |a::l,i+1,x,h=>by
  have ih:=flat_set f m hf l i x (by simpa using h)
  simp only[List.set_cons_succ,List.flatMap_cons,ih];have h1:(i+1)*m=(f a).length+i*m:=by rw[hf,Nat.succ_mul];omega
  have h2:(i+1)*m+m=(f a).length+(i*m+m):=by rw[h1];omega
  rw[h2,h1,List.take_length_add_append,List.drop_length_add_append];simp[List.append_assoc]
theorem kv_len(x:KV):x.cells.length=4:=rfl
theorem kv_set(ks:List KV)(s:Nat)(hs:s<ks.length)(x:KV):((((ks.flatMap KV.cells).set (s*4) x.set).set (s*4+1) x.pre).set (s*4+2) x.sav).set (s*4+3) (.int .i64 x.st)=(ks.set s x).flatMap KV.cells:=by
 rw[flat_set KV.cells 4 kv_len ks s x hs];have hl:(ks.flatMap KV.cells).length=ks.length*4:=by
  clear hs;induction ks with
  |nil=>rfl
  |cons a l ih=>rw[List.flatMap_cons,List.length_append,ih,kv_len,List.length_cons];omega
 obtain⟨L,hL⟩: ∃L,ks.flatMap KV.cells=L:=⟨_,rfl⟩;rw[hL]at hl⊢;apply List.ext_getElem?;intro i;have h4:(L.take (s*4)++x.cells).length=s*4+4:=by rw[List.length_append,List.length_take,kv_len];omega
 have h3:(L.take (s*4)).length=s*4:=by rw[List.length_take];omega
 simp only[List.getElem?_set,List.length_set];by_cases h1:i<s*4
 ·rw[List.getElem?_append_left (by omega),List.getElem?_append_left (by omega),List.getElem?_take_of_lt h1]
  rw[if_neg (by omega),if_neg (by omega),if_neg (by omega),if_neg (by omega)]
 ·by_cases h2:i<s*4+4
  ·rw[List.getElem?_append_left (by omega),List.getElem?_append_right (by omega),h3]
   obtain⟨d,rfl⟩: ∃d,i=s*4+d:=⟨i-s*4,by omega⟩
   have hd:d<4:=by omega
   match d,hd with
   |0,_=>simp[KV.cells];omega
   |1,_=>simp[KV.cells];omega
   |2,_=>simp[KV.cells];omega
   |3,_=>simp[KV.cells];omega
  ·rw[List.getElem?_append_right (by omega),h4,List.getElem?_drop]
   rw[if_neg (by omega),if_neg (by omega),if_neg (by omega),if_neg (by omega)]
   congr 1
   omega
theorem intV_set(l:List Int)(i:Nat)(x:Int):(intV l).set i (.int .i64 x)=intV (l.set i x):=by unfold intV;rw[List.map_set]
section
variable {w w':World}{B p:Nat}{V:PV}{ks:List KV}{M:MV}
theorem PoolR.put_bytes(h:PoolR w B p V ks M){c:Nat}(hc:c<6)(x:ByteArray):PoolR (w.setCell ⟨p,6+c*10+0,none⟩ (.string x)) B p V ks {M with bytes:=up M.bytes c x}∧Turn p w V (w.setCell ⟨p,6+c*10+0,none⟩ (.string x)) V:=
 have s:=Step.cell (w:=w) (V:=V) (V':=V) (p:=p) (.string x) (6+c*10+0) fun _=>rfl;⟨⟨h.o.st_bytes c x s,h.b.set_bytes hc x⟩,s.turn trivial⟩
theorem PoolR.put_srv(h:PoolR w B p V ks M){c:Nat}(hc:c<6)(x:Int):PoolR (w.setCell ⟨p,6+c*10+3,none⟩ (.int .i64 x)) B p V ks {M with srv:=up M.srv c x}∧Turn p w V (w.setCell ⟨p,6+c*10+3,none⟩ (.int .i64 x)) V:=
 have s:=Step.cell (w:=w) (V:=V) (V':=V) (p:=p) (.int .i64 x) (6+c*10+3) fun _=>rfl;⟨⟨h.o.st_srv c x s,h.b.set_srv hc x⟩,s.turn trivial⟩
theorem PoolR.put_st(h:PoolR w B p V ks M){c:Nat}(hc:c<6)(x:Int):PoolR (w.setCell ⟨p,6+c*10+7,none⟩ (.int .i64 x)) B p V ks {M with ow:=up M.ow c ⟨(M.ow c).set,(M.ow c).pre,(M.ow c).sav,x⟩}∧Turn p w V (w.setCell ⟨p,6+c*10+7,none⟩ (.int .i64 x)) V:=
 have s:=Step.cell (w:=w) (V:=V) (V':=V) (p:=p) (.int .i64 x) (6+c*10+7) fun _=>rfl;⟨⟨h.o.st_st c x s,h.b.set_st hc x⟩,s.turn trivial⟩
theorem PoolR.put_set(h:PoolR w B p V ks M){c:Nat}(hc:c<6){v:Value}{l:List Pr}(ho:OPL w B v l):PoolR (w.setCell ⟨p,6+c*10+4,none⟩ v) B p {V with set:=up V.set c v} ks {M with ow:=up M.ow c ⟨l,(M.ow c).pre,(M.ow c).sav,(M.ow c).st⟩}∧Turn p w V (w.setCell ⟨p,6+c*10+4,none⟩ v) {V with set:=up V.set c v}:=by
 have s:=Step.cell (w:=w) (V:=V) (V':={V with set:=up V.set c v}) (p:=p) v (6+c*10+4) fun r=>by cases r<;>rfl
 exact⟨⟨h.o.st_set c (ho.keeps (s.pairs h.o trivial ty_pair)) s,(h.b.set_set hc v).same (M':={M with ow:=up M.ow c ⟨l,(M.ow c).pre,(M.ow c).sav,(M.ow c).st⟩}) (fun j _=>by
  have e: ∀i,(up M.ow c ⟨l,(M.ow c).pre,(M.ow c).sav,(M.ow c).st⟩ i).st=(M.ow i).st:=fun i=>by
   by_cases e:i=c
   ·subst e;rw[up_at]
   ·rw[up_off _ _ e]
  unfold cellV;split
  ·rfl
  split
  ·refine congrFun (clV_ext fun k hk=>?_) _;match k,hk with
   |0,_|1,_|2,_|3,_|4,_|5,_|6,_|8,_|9,_=>rfl
   |7,_=>exact congrArg (Value.int .i64) (e _)
  ·rfl)⟩,s.turn trivial⟩
theorem PoolR.put_pre(h:PoolR w B p V ks M){c:Nat}(hc:c<6){v:Value}{l:List Pr}(ho:OPL w B v l):PoolR (w.setCell ⟨p,6+c*10+5,none⟩ v) B p {V with pre:=up V.pre c v} ks {M with ow:=up M.ow c ⟨(M.ow c).set,l,(M.ow c).sav,(M.ow c).st⟩}∧Turn p w V (w.setCell ⟨p,6+c*10+5,none⟩ v) {V with pre:=up V.pre c v}:=by
 have s:=Step.cell (w:=w) (V:=V) (V':={V with pre:=up V.pre c v}) (p:=p) v (6+c*10+5) fun r=>by cases r<;>rfl
 exact⟨⟨h.o.st_pre c (ho.keeps (s.pairs h.o trivial ty_pair)) s,(h.b.set_pre hc v).same (M':={M with ow:=up M.ow c ⟨(M.ow c).set,l,(M.ow c).sav,(M.ow c).st⟩}) (fun j _=>by
  have e: ∀i,(up M.ow c ⟨(M.ow c).set,l,(M.ow c).sav,(M.ow c).st⟩ i).st=(M.ow i).st:=fun i=>by
   by_cases e:i=c
   ·subst e;rw[up_at]
   ·rw[up_off _ _ e]
  unfold cellV;split
  ·rfl
  split
  ·refine congrFun (clV_ext fun k hk=>?_) _;match k,hk with
   |0,_|1,_|2,_|3,_|4,_|5,_|6,_|8,_|9,_=>rfl
   |7,_=>exact congrArg (Value.int .i64) (e _)
  ·rfl)⟩,s.turn trivial⟩
theorem PoolR.put_sav(h:PoolR w B p V ks M){c:Nat}(hc:c<6){v:Value}{l:List Pr}(ho:OPL w B v l):PoolR (w.setCell ⟨p,6+c*10+6,none⟩ v) B p {V with sav:=up V.sav c v} ks {M with ow:=up M.ow c ⟨(M.ow c).set,(M.ow c).pre,l,(M.ow c).st⟩}∧Turn p w V (w.setCell ⟨p,6+c*10+6,none⟩ v) {V with sav:=up V.sav c v}:=by
 have s:=Step.cell (w:=w) (V:=V) (V':={V with sav:=up V.sav c v}) (p:=p) v (6+c*10+6) fun r=>by cases r<;>rfl
 exact⟨⟨h.o.st_sav c (ho.keeps (s.pairs h.o trivial ty_pair)) s,(h.b.set_sav hc v).same (M':={M with ow:=up M.ow c ⟨(M.ow c).set,(M.ow c).pre,l,(M.ow c).st⟩}) (fun j _=>by
  have e: ∀i,(up M.ow c ⟨(M.ow c).set,(M.ow c).pre,l,(M.ow c).st⟩ i).st=(M.ow i).st:=fun i=>by
   by_cases e:i=c
   ·subst e;rw[up_at]
   ·rw[up_off _ _ e]
  unfold cellV;split
  ·rfl
  split
  ·refine congrFun (clV_ext fun k hk=>?_) _;match k,hk with
   |0,_|1,_|2,_|3,_|4,_|5,_|6,_|8,_|9,_=>rfl
   |7,_=>exact congrArg (Value.int .i64) (e _)
  ·rfl)⟩,s.turn trivial⟩
theorem PoolR.put_rows(h:PoolR w B p V ks M){v:Value}{l:List Pr}(ho:OPL w B v l):PoolR (w.setCell ⟨p,2,none⟩ v) B p {V with rows:=v} ks {M with w:=⟨l,M.w.ses⟩}∧Turn p w V (w.setCell ⟨p,2,none⟩ v) {V with rows:=v}:=by
 have s:=Step.cell (w:=w) (V:=V) (V':={V with rows:=v}) (p:=p) v 2 fun r=>by cases r<;>rfl
 exact⟨⟨h.o.st_rows (ho.keeps (s.pairs h.o trivial ty_pair)) s,(h.b.set_rows v).same (M':={M with w:=⟨l,M.w.ses⟩}) (fun _ _=>rfl)⟩,s.turn trivial⟩
theorem PoolR.put_ses(h:PoolR w B p V ks M){v:Value}{l:List Se}(ho: ∃cs,OSL w B v l cs):PoolR (w.setCell ⟨p,3,none⟩ v) B p {V with ses:=v} ks {M with w:=⟨M.w.rows,l⟩}∧Turn p w V (w.setCell ⟨p,3,none⟩ v) {V with ses:=v}:=by
 have s:=Step.cell (w:=w) (V:=V) (V':={V with ses:=v}) (p:=p) v 3 fun r=>by cases r<;>rfl
 exact⟨⟨h.o.st_ses (by obtain⟨cs,ho⟩:=ho;exact⟨cs,(s.pairs h.o trivial ty_ses).own ho.own,ho.ses.keeps (s.pairs h.o trivial ty_pair)⟩) s,(h.b.set_ses v).same (M':={M with w:=⟨M.w.rows,l⟩}) (fun _ _=>rfl)⟩,s.turn trivial⟩
theorem PoolR.put_owner(h:PoolR w B p V ks M){g off n cap:Nat}(e:V.owner= .slice (some ⟨g,off,none⟩) n cap)(i:Nat)(x:Int):PoolR (w.setCell ⟨g,off+i,none⟩ (.int .i64 x)) B p V ks {M with owner:=M.owner.set i x}∧Turn p w V (w.setCell ⟨g,off+i,none⟩ (.int .i64 x)) V:=by
 have hg:V.at p .owner=some g:=by show V.owner.ownBlock=_;rw[e];rfl
 have s:=Step.put h.o (r0:=.owner) trivial (by simp) hg (off+i) (.int .i64 x)
 have ho:=h.o.owner;have hne:p≠g:=fun e=>absurd (h.o.apart .pool .owner p trivial trivial rfl (by rw[e];exact hg)) (by simp)
 obtain⟨A,c',e',_⟩:=ho.form;have hn:n=M.owner.length:=by rw[e]at e';injection e'
 refine⟨⟨?_,(h.b.keep (Below.heap_setCell w ⟨g,off+i,none⟩ _ p hne)).same (fun _ _=>rfl)⟩,s.turn trivial⟩;refine h.o.st_owner (v:=V.owner) (l:=M.owner.set i x) ?_ s;rw[←intV_set,List.length_set,e,hn];rw[e,hn]at ho;exact ho.put i _
theorem PoolR.put_known(h:PoolR w B p V ks M){g off n cap:Nat}(e:V.known= .slice (some ⟨g,off,none⟩) n cap)(i:Nat)(hi:i<ks.length)(x:KV)(o:Ow)(hx:OwR w B x.set x.pre x.sav o∧x.st=o.st):
  PoolR ((((w.setCell ⟨g,off+i*4,none⟩ x.set).setCell ⟨g,off+i*4+1,none⟩ x.pre).setCell ⟨g,off+i*4+2,none⟩ x.sav).setCell ⟨g,off+i*4+3,none⟩ (.int .i64 x.st)) B p V (ks.set i x) {M with known:=M.known.set i o}∧
   Turn p w V ((((w.setCell ⟨g,off+i*4,none⟩ x.set).setCell ⟨g,off+i*4+1,none⟩ x.pre).setCell ⟨g,off+i*4+2,none⟩ x.sav).setCell ⟨g,off+i*4+3,none⟩ (.int .i64 x.st)) V:=by
 have hg:V.at p .known=some g:=by show V.known.ownBlock=_;rw[e];rfl
 have hne:p≠g:=fun e=>absurd (h.o.apart .pool .known p trivial trivial rfl (by rw[e];exact hg)) (by simp)
 have ho:=h.o.known;obtain⟨A,c',e',_⟩:=ho.form;have hn:n=ks.length:=by rw[e]at e';injection e'
 rw[e,hn]at ho;have o1:=((((ho.put (i*4) x.set).put (i*4+1) x.pre).put (i*4+2) x.sav).put (i*4+3) (.int .i64 x.st));rw[kv_set ks i hi x]at o1;have st: ∀(u:World) (j:Nat) (y:Value),(∀q:Role,q.ok→q≠.known→True)→Step p .known w V u V→u.heap[p]? =w.heap[p]? →Step p .known w V (u.setCell ⟨g,j,none⟩ y) V∧(u.setCell ⟨g,j,none⟩ y).heap[p]? =w.heap[p]? :=fun u j y _ s hb=>
  ⟨⟨s.os,s.tape,s.output,by simpa[World.setCell]using s.size,fun k hk h1 h2=>(Below.heap_setCell u ⟨g,j,none⟩ y k (fun e=>h2 (by rw[hg,e]))).trans (s.block k hk h1 h2),s.same,s.new,fun cs hc=>by
   obtain⟨cs',h'⟩:=s.pool cs hc;exact⟨cs',h'.far (p:=⟨g,j,none⟩) hne y⟩⟩,(Below.heap_setCell u ⟨g,j,none⟩ y p hne).trans hb⟩
 have s0:Step p .known w V w V:=⟨rfl,rfl,rfl,Nat.le_refl _,fun _ _ _ _=>rfl,fun _ _=>rfl,fun _ h=>.inl h,fun cs h=>⟨cs,h⟩⟩;obtain⟨s1,b1⟩:=st _ (off+i*4) x.set (fun _ _ _=>trivial) s0 rfl;obtain⟨s2,b2⟩:=st _ (off+i*4+1) x.pre (fun _ _ _=>trivial) s1 b1;obtain⟨s3,b3⟩:=st _ (off+i*4+2) x.sav (fun _ _ _=>trivial) s2 b2;obtain⟨s4,b4⟩:=st _ (off+i*4+3) (.int .i64 x.st) (fun _ _ _=>trivial) s3 b3;have kp:=s4.pairs h.o trivial ty_pair;refine⟨⟨h.o.st_known (v:=V.known) (l:=ks.set i x) (m:=M.known.set i o) (by rw[List.length_set,e,hn];exact o1) (by rw[List.length_set,List.length_set];exact h.o.klen) (fun s hs=>?_) s4,(h.b.keep b4).same (fun _ _=>rfl)⟩,s4.turn trivial⟩
 rw[List.length_set]at hs;rw[getD_set _ _ _ _ _ (by rw[←h.o.klen];exact hi),List.getElem_set]
 by_cases es:i=s
 ·rw[if_pos es,if_pos es.symm];exact⟨hx.1.keeps kp,hx.2⟩
 ·rw[if_neg es,if_neg (fun e=>es e.symm)];exact⟨(h.o.kn s hs).1.keeps kp,(h.o.kn s hs).2⟩
end
def Done(w:World)(B p:Nat)(V:PV)(M:MV)(w':World):Prop:=∃V' ks',PoolR w' B p V' ks' M∧Turn p w V w' V'
section
variable {w w':World}{B p q:Nat}{V V':PV}{ks:List KV}{M:MV}{t:TypeId}{cs:Array Value}
theorem PoolR.boxN(h:PoolR w B p V ks M)(hb:Blk w q t cs)(hn:¬ V.mine p q)(h1:t≠60)(h2:t≠133)(j:Nat)(x:Value):PoolR (w.setCell ⟨q,j,none⟩ x) B p V ks M:=
 h.keep (Keeps.set_ (p:=⟨q,j,none⟩) (show w.heap[q]? =_ from hb) h1 x) (Keeps.set_ (p:=⟨q,j,none⟩) (show w.heap[q]? =_ from hb) h2 x) fun k hk=>Below.heap_setCell w ⟨q,j,none⟩ x k (fun e=>hn (by have e:k=q:=e;rw[←e];exact hk))
theorem PoolR.box(h:PoolR w B p V ks M)(hb:Blk w q t cs)(ht: ∀r:Role,r.ty≠t)(h1:t≠60)(h2:t≠133)(j:Nat)(x:Value):PoolR (w.setCell ⟨q,j,none⟩ x) B p V ks M:=
 h.boxN hb (h.o.notBox hb ht) h1 h2 j x
theorem Turn.set_new{w0:World}{V0:PV}(h:Turn p w0 V0 w V)(hq:w0.heap.size≤q)(j:Nat)(x:Value):Turn p w0 V0 (w.setCell ⟨q,j,none⟩ x) V:=
 ⟨h.os,h.tape,h.output,by simpa[World.setCell]using h.size,fun k hk hm=>(Below.heap_setCell w ⟨q,j,none⟩ x k (by show k≠q;omega)).trans (h.block k hk hm),h.mine⟩
theorem Done.box3{w0:World}{V0:PV}(h:PoolR w B p V ks M)(t0:Turn p w0 V0 w V)(hb:Blk w q t cs)(ht: ∀r:Role,r.ty≠t)(h1:t≠60)(h2:t≠133)(hq:w0.heap.size≤q)(x y z:Value):
  Done w0 B p V0 M (((w.setCell ⟨q,0,none⟩ x).setCell ⟨q,1,none⟩ y).setCell ⟨q,2,none⟩ z):=
 ⟨V,ks,((h.box hb ht h1 h2 0 x).box (hb.set_ 0 x) ht h1 h2 1 y).box ((hb.set_ 0 x).set_ 1 y) ht h1 h2 2 z,((t0.set_new hq 0 x).set_new hq 1 y).set_new hq 2 z⟩
end
theorem plF_len2(key v:ByteArray): ∀(l:List Pr) (s:Bool × List Pr),(l.foldl (plF key v) s).2.length+(if s.1=true then 1 else 0)≤s.2.length+l.length+(if(l.foldl (plF key v) s).1=true then 1 else 0)
 |[],s=>Nat.le_refl _
 |p::l,(b,o)=>by
  rw[List.foldl_cons];have h:=plF_len2 key v l (plF key v (b,o) p);have h2:(plF key v (b,o) p).2.length+(if b=true then 1 else 0)≤o.length+1+(if(plF key v (b,o) p).1=true then 1 else 0):=by
   unfold plF;cases b<;>cases ltS p.k key<;>by_cases e:p.k=key<;>simp[e]
  simp only[List.length_cons]at h h2⊢;omega
theorem plF_in(key v:ByteArray): ∀(l:List Pr) (p:Pr),p∈plusP l key v→p=⟨key,v⟩∨p∈l
 |[],p,h=>by
  have:p=⟨key,v⟩:=by simpa[plusP]using h
  exact .inl this
 |q::l,p,h=>by
  unfold plusP at h;split at h
  ·rcases List.mem_cons.1 h with rfl|h
   ·exact .inr List.mem_cons_self
   ·exact(plF_in key v l p h).imp id fun h=>List.mem_cons_of_mem _ h
  ·rcases List.mem_cons.1 h with rfl|h
   ·exact .inl rfl
   ·exact .inr (List.mem_filter.1 h).1
theorem refplus_any(w:World)(v:Value)(l:List Pr)(key val:ByteArray)(h:PL w w.heap.size v l):
  Calls Tryz.prog 150 #[v,.string key,.string val] w fun e w'=>∃v',e= .returned v'∧w'.ownsRow w.heap.size 60 2 v' (plusP l key val).length (cellsP (plusP l key val))∧Below w.heap.size w w':=by
 obtain⟨i0,hi0,hz0,hz1,hz2⟩:=info_parts pair_info;obtain⟨A,c,rfl,hc,hr,hf⟩:=h;have hl:l.length≤4398046510976:=hf.1;have HR:=Hd hr;obtain⟨n,hN⟩: ∃n,l.length=n:=⟨_,rfl⟩;rw[hN]at hl⊢;have HN:=Hd hN;clear hr hf hc hN;go_enter func150,ntmps150
 go_wp2_with fail
 go_loopw [7,8,9] (fun u d i wx=>∃(k:Nat) (b:Bool) (O:List Pr),k≤n∧i= .int .i64 k∧d= .bool b∧Hid ((l.take k).foldl (plF key val) (false,[])=(b,O))∧wx.ownsRow w.heap.size 60 2 u O.length (cellsP O)∧Below w.heap.size w wx) (fun _ _ i _=>n-(intOf i).toNat)
 case atStart=>exact⟨0,false,[],Nat.zero_le _,rfl,rfl,Hd rfl,World.ownsRow_nil _ _ _ _,bR⟩
 case round=>
  obtain⟨k,b,O,hk,rfl,rfl,HS,ho,hb⟩:=hrel;have hln:=plF_len2 key val (l.take k) (false,[]);rw[HS.out]at hln;simp only[List.length_nil,List.length_take]at hln;have HO:=Hd ho;by_cases hlt:k<n
  ·have g1:(k:Int)<(n:Int):=by omega
   have g2:(0:Int)≤(k:Int):=by omega
   have hkl:k<l.length:=by rw[HN.out];exact hlt
   have hr:=HR.out;obtain⟨ad,hA,_,x0,x1⟩:=pair_at (hr.below hb) hkl;subst hA;have hst:=plF_take hkl key val (false,[]);rw[HS.out]at hst;obtain⟨p,hp⟩: ∃p,l[k]=p:=⟨_,rfl⟩;rw[hp]at x0 x1 hst;have HB:=Hd hb;have HST:=Hd hst;have hOb:O.length≤k+(if b=true then 1 else 0):=by
    have:min k l.length≤k:=Nat.min_le_left _ _;simp only[Bool.false_eq_true,if_false]at hln;omega
   obtain⟨pk,pv⟩:=p;simp only at x0 x1;have HPE:=Hd hp;have HK:=Hd hkl;clear hp hr hb ho hst hln;cases b with
   |true=>
    simp only[if_true]at hOb;by_cases he:pk=key
    ·subst he;have HF:=Hd (show(l.take (k+1)).foldl (plF pk val) (false,[])=(true,O)by rw[HST.out];simp[plF])
     go_wp2_with fail
     go_roundw
     case rel=>exact⟨k+1,_,_,by omega,by go_num,rfl,HF,HO.out,HB.out⟩
     case measure=>simp[intOf];omega
    ·have n1:=ref_str_no he;have HF:=Hd (show(l.take (k+1)).foldl (plF key val) (false,[])=(true,O++[⟨pk,pv⟩])by rw[HST.out];simp[plF,he])
     have RD:=Hd (Reads.new_ wr 60 #[.string pk,.string pv] (n:=1) (size:=2) rfl);have bb:=boxed wr (.cells #[.string pk,.string pv] 60);have B1:=Hd (below_step HB.out leR bb);have O1:=Hd ((Keeps.of_below bb).own HO.out);clear HB HO bb;go_wp2_with (at_builtin;refine wpList_append_any _ rfl (.tmp 40) (.tmp 45) 27 rfl w.heap.size 60 i0 _ 2 32 underlying27 hi0 hz0 hz1 hz2 rfl (by decide) _ O.length (cellsP O) rfl O1.out (wr.heap.size+1) (some ⟨wr.heap.size,0,none⟩) 1 1 (cellsP [⟨pk,pv⟩]) rfl RD.out (cellsP_one _) (by unfold maxLen;omega) (by omega) B1.out.size ?_;intro v' w2 hown hgr hat)
     have HB:=Hd (B1.out.grown hgr B1.out.size fun q hq=>own_baseR O1.out q hq);have HO:=Hd (show w2.ownsRow w.heap.size 60 2 v' (O++[(⟨pk,pv⟩:Pr)]).length (cellsP (O++[⟨pk,pv⟩]))by rw[List.length_append,cellsP_app];exact hown)
     clear hown hgr hat RD B1 O1;go_wp2_with fail
     go_roundw
     case rel=>exact⟨k+1,_,_,by omega,by go_num,rfl,HF,HO.out,HB.out⟩
     case measure=>simp[intOf];omega
   |false=>
    simp only[Bool.false_eq_true,if_false,Nat.add_zero]at hOb;cases hlt2:ltS pk key with
    |true=>
     have e1:Op.bytesLess pk.toList key.toList=true:=hlt2;have he:¬ pk=key:=fun e=>by
      rw[e]at hlt2;unfold ltS at hlt2;rw[less_irrefl]at hlt2;cases hlt2
     have n1:=ref_str_no he;have HF:=Hd (show(l.take (k+1)).foldl (plF key val) (false,[])=(false,O++[⟨pk,pv⟩])by rw[HST.out];simp[plF,he,hlt2])
     have RD:=Hd (Reads.new_ wr 60 #[.string pk,.string pv] (n:=1) (size:=2) rfl);have bb:=boxed wr (.cells #[.string pk,.string pv] 60);have B1:=Hd (below_step HB.out leR bb);have O1:=Hd ((Keeps.of_below bb).own HO.out);clear HB HO bb;go_wp2_with (at_builtin;refine wpList_append_any _ rfl (.tmp 40) (.tmp 45) 27 rfl w.heap.size 60 i0 _ 2 32 underlying27 hi0 hz0 hz1 hz2 rfl (by decide) _ O.length (cellsP O) rfl O1.out (wr.heap.size+1) (some ⟨wr.heap.size,0,none⟩) 1 1 (cellsP [⟨pk,pv⟩]) rfl RD.out (cellsP_one _) (by unfold maxLen;omega) (by omega) B1.out.size ?_;intro v' w2 hown hgr hat)
     have HB:=Hd (B1.out.grown hgr B1.out.size fun q hq=>own_baseR O1.out q hq);have HO:=Hd (show w2.ownsRow w.heap.size 60 2 v' (O++[(⟨pk,pv⟩:Pr)]).length (cellsP (O++[⟨pk,pv⟩]))by rw[List.length_append,cellsP_app];exact hown)
     clear hown hgr hat RD B1 O1;go_wp2_with fail
     go_roundw
     case rel=>exact⟨k+1,_,_,by omega,by go_num,rfl,HF,HO.out,HB.out⟩
     case measure=>simp[intOf];omega
    |false=>
     have e1:Op.bytesLess pk.toList key.toList=false:=hlt2;by_cases he:pk=key
     ·subst he;have HF:=Hd (show(l.take (k+1)).foldl (plF pk val) (false,[])=(true,O++[⟨pk,val⟩])by rw[HST.out];simp[plF,hlt2])
      have RD:=Hd (Reads.new_ wr 60 #[.string pk,.string val] (n:=1) (size:=2) rfl);have bb:=boxed wr (.cells #[.string pk,.string val] 60);have B1:=Hd (below_step HB.out leR bb);have O1:=Hd ((Keeps.of_below bb).own HO.out);clear HB HO bb;go_upto_region 8 with(at_builtin;refine wpList_append_any _ rfl (.tmp 27) (.tmp 31) 27 rfl w.heap.size 60 i0 _ 2 32 underlying27 hi0 hz0 hz1 hz2 rfl (by decide) _ O.length (cellsP O) rfl O1.out (wr.heap.size+1) (some ⟨wr.heap.size,0,none⟩) 1 1 (cellsP [⟨pk,val⟩]) rfl RD.out (cellsP_one _) (by unfold maxLen;omega) (by omega) B1.out.size ?_;intro v' w2 hown hgr hat)
      have HB:=Hd (B1.out.grown hgr B1.out.size fun q hq=>own_baseR O1.out q hq);have HO:=Hd (show w2.ownsRow w.heap.size 60 2 v' (O++[(⟨pk,val⟩:Pr)]).length (cellsP (O++[⟨pk,val⟩]))by rw[List.length_append,cellsP_app];exact hown)
      clear hown hgr hat RD B1 O1;obtain⟨ad2,hA2,-,y0,y1⟩:=pair_at (HR.out.below HB.out) HK.out;obtain rfl:ad=ad2:=by simpa using hA2
      rw[HPE.out]at y0 y1;clear hA2 x0 x1;go_wp2_with fail
      go_roundw
      case rel=>exact⟨k+1,_,_,by omega,by go_num,rfl,HF,HO.out,HB.out⟩
      case measure=>simp[intOf];omega
     ·have n1:=ref_str_no he;have HF:=Hd (show(l.take (k+1)).foldl (plF key val) (false,[])=(true,O++[⟨key,val⟩]++[⟨pk,pv⟩])by rw[HST.out];simp[plF,he,hlt2])
      have RD:=Hd (Reads.new_ wr 60 #[.string key,.string val] (n:=1) (size:=2) rfl);have bb:=boxed wr (.cells #[.string key,.string val] 60);have B1:=Hd (below_step HB.out leR bb);have O1:=Hd ((Keeps.of_below bb).own HO.out);clear HB HO bb;go_upto_region 8 with(at_builtin;refine wpList_append_any _ rfl (.tmp 27) (.tmp 31) 27 rfl w.heap.size 60 i0 _ 2 32 underlying27 hi0 hz0 hz1 hz2 rfl (by decide) _ O.length (cellsP O) rfl O1.out (wr.heap.size+1) (some ⟨wr.heap.size,0,none⟩) 1 1 (cellsP [⟨key,val⟩]) rfl RD.out (cellsP_one _) (by unfold maxLen;omega) (by omega) B1.out.size ?_;intro v' w2 hown hgr hat)
      have HB:=Hd (B1.out.grown hgr B1.out.size fun q hq=>own_baseR O1.out q hq);have HO:=Hd (show w2.ownsRow w.heap.size 60 2 v' (O++[(⟨key,val⟩:Pr)]).length (cellsP (O++[⟨key,val⟩]))by rw[List.length_append,cellsP_app];exact hown)
      clear hown hgr hat RD B1 O1;obtain⟨ad2,hA2,-,y0,y1⟩:=pair_at (HR.out.below HB.out) HK.out;obtain rfl:ad=ad2:=by simpa using hA2
      rw[HPE.out]at y0 y1;clear hA2 x0 x1;have RD:=Hd (Reads.new_ w2 60 #[.string pk,.string pv] (n:=1) (size:=2) rfl);have bb:=boxed w2 (.cells #[.string pk,.string pv] 60);have B1:=Hd (below_step HB.out leR bb);have O1:=Hd ((Keeps.of_below bb).own HO.out);clear HB HO bb;go_wp2_with (at_builtin;refine wpList_append_any _ rfl (.tmp 40) (.tmp 45) 27 rfl w.heap.size 60 i0 _ 2 32 underlying27 hi0 hz0 hz1 hz2 rfl (by decide) v' (O++[(⟨key,val⟩:Pr)]).length (cellsP (O++[(⟨key,val⟩:Pr)])) rfl O1.out (w2.heap.size+1) (some ⟨w2.heap.size,0,none⟩) 1 1 (cellsP [⟨pk,pv⟩]) rfl RD.out (cellsP_one _) (by unfold maxLen;rw[List.length_append];simp only[List.length_cons,List.length_nil];omega) (by rw[List.length_append];simp only[List.length_cons,List.length_nil];omega) B1.out.size ?_;intro v' w3 hown hgr hat)
      have HB:=Hd (B1.out.grown hgr B1.out.size fun q hq=>own_baseR O1.out q hq);have HO:=Hd (show w3.ownsRow w.heap.size 60 2 v' ((O++[(⟨key,val⟩:Pr)])++[(⟨pk,pv⟩:Pr)]).length (cellsP ((O++[(⟨key,val⟩:Pr)])++[⟨pk,pv⟩]))by rw[List.length_append,cellsP_app];exact hown)
      clear hown hgr hat RD B1 O1;go_wp2_with fail
      go_roundw
      case rel=>exact⟨k+1,_,_,by omega,by go_num,rfl,HF,HO.out,HB.out⟩
      case measure=>simp[intOf];omega
  ·have g1:(n:Int)≤(k:Int):=by omega
   have hkn:k=n:=by omega
   subst hkn;have hs:=HS.out;rw[←HN.out,List.take_length]at hs;have hfin:=plF_all key val l [];rw[hs,List.nil_append]at hfin;have hOb:O.length≤k+(if b=true then 1 else 0):=by
    have:min k l.length≤k:=Nat.min_le_left _ _;simp only[Bool.false_eq_true,if_false]at hln;omega
   have HFN:=Hd hfin;have HB:=Hd hb;clear hb ho hs hfin hln;cases b with
   |true=>
    have HE:=Hd (show O=plusP l key val from by have:=HFN.out;simpa[plE]using this)
    go_wp2_with fail
    go_ret;exact⟨_,rfl,by rw[←HE.out];exact HO.out,HB.out⟩
   |false=>
    simp only[Bool.false_eq_true,if_false,Nat.add_zero]at hOb;have HE:=Hd (show O++[⟨key,val⟩]=plusP l key val from by have:=HFN.out;simpa[plE]using this)
    have RD:=Hd (Reads.new_ wr 60 #[.string key,.string val] (n:=1) (size:=2) rfl);have bb:=boxed wr (.cells #[.string key,.string val] 60);have B1:=Hd (below_step HB.out leR bb);have O1:=Hd ((Keeps.of_below bb).own HO.out);clear HB HO bb;go_wp2_with (at_builtin;refine wpList_append_any _ rfl (.tmp 49) (.tmp 53) 27 rfl w.heap.size 60 i0 _ 2 32 underlying27 hi0 hz0 hz1 hz2 rfl (by decide) _ O.length (cellsP O) rfl O1.out (wr.heap.size+1) (some ⟨wr.heap.size,0,none⟩) 1 1 (cellsP [⟨key,val⟩]) rfl RD.out (cellsP_one _) (by unfold maxLen;omega) (by omega) B1.out.size ?_;intro v' w2 hown hgr hat)
    have HB:=Hd (B1.out.grown hgr B1.out.size fun q hq=>own_baseR O1.out q hq);have HO:=Hd (show w2.ownsRow w.heap.size 60 2 v' (O++[(⟨key,val⟩:Pr)]).length (cellsP (O++[⟨key,val⟩]))by rw[List.length_append,cellsP_app];exact hown)
    clear hown hgr hat RD B1 O1;go_wp2_with fail
    go_ret;exact⟨_,rfl,by rw[←HE.out];exact HO.out,HB.out⟩
end Go.Proofs.YtjbnfigpflambacGreatDoor
