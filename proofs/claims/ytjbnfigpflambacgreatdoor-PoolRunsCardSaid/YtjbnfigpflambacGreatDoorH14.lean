/- A server's session in the midst of a statement. back.value, told, failed, keep. (server).end: a transaction is done, or undone. (server).transaction. (server).put: a row is put. Conditions: those of each lemma. -/
import Derived.Test.YtjbnfigpflambacGreatDoorH09
import Derived.Test.YtjbnfigpflambacGreatDoorH13
namespace Go.Proofs.YtjbnfigpflambacGreatDoor
set_option maxRecDepth 100000
set_option maxHeartbeats 16000000
open _root_.Go.Proofs.Tryz
open Go.ChangeShapes Go.WideShapes Go.ChangeAt Go.RowKit
def anV(a:An):Value:=.agg #[.int .i64 a.kind,.string a.text,.int .i64 a.st]
structure Only2(a b:Nat)(w w':World):Prop where
 os:w'.os=w.os
 tape:w'.tape=w.tape
 output:w'.output=w.output
 size:w.heap.size≤w'.heap.size
 block: ∀k,k<w.heap.size→k≠a→k≠b→w'.heap[k]? =w.heap[k]?
section
variable {a b:Nat}{w w' u:World}
theorem Only2.of_below(h:Below w.heap.size w w'):Only2 a b w w':=⟨h.os,h.tape,h.output,h.size,fun k hk _ _=>h.block k hk⟩
theorem Only2.refl(a b:Nat)(w:World):Only2 a b w w:=.of_below bR
theorem Only2.trans(h:Only2 a b w w')(k:Only2 a b w' u):Only2 a b w u:=
 ⟨k.os.trans h.os,k.tape.trans h.tape,k.output.trans h.output,Nat.le_trans h.size k.size,fun i hi ha hb=>(k.block i (Nat.lt_of_lt_of_le hi h.size) ha hb).trans (h.block i hi ha hb)⟩
theorem Only2.below(h:Only2 a b w w')(k:Below w'.heap.size w' u):Only2 a b w u:=h.trans (.of_below k)
theorem Only2.alloc(h:Only2 a b w w')(o:Obj):Only2 a b w (w'.alloc o):=h.below (boxed w' o)
theorem Only2.drew(h:Only2 a b w w'):Only2 a b w w'.drew:=h.below bR.drew
theorem Only2.set_(h:Only2 a b w w'){p:Addr}(hp:p.block=a∨p.block=b)(x:Value):Only2 a b w (w'.setCell p x):=
 h.trans ⟨rfl,rfl,rfl,by simp[World.setCell],fun k _ ha hb=>Below.heap_setCell w' p x k (by rcases hp with e|e<;>rw[e]<;>assumption)⟩
theorem Only2.set_new(h:Only2 a b w w'){p:Addr}(hp:w.heap.size≤p.block)(x:Value):Only2 a b w (w'.setCell p x):=
 ⟨h.os,h.tape,h.output,by simpa[World.setCell]using h.size,fun k hk ha hb=>(Below.heap_setCell w' p x k (by omega)).trans (h.block k hk ha hb)⟩
theorem Only2.bel{B:Nat}{w0:World}(h:Only2 a b w w')(hb:Below B w0 w)(hB:B≤w.heap.size)(ha:B≤a)(hb2:B≤b):Below B w0 w':=
 ⟨h.os.trans hb.os,h.tape.trans hb.tape,h.output.trans hb.output,Nat.le_trans hb.size h.size,fun k hk=>(h.block k (by omega) (by omega) (by omega)).trans (hb.block k hk)⟩
theorem Only2.blk{g:Nat}{t:TypeId}{cs:Array Value}(h:Only2 a b w w')(hg:Blk w g t cs)(ha:g≠a)(hb:g≠b):Blk w' g t cs:=(h.block g hg.lt ha hb).trans hg
end
theorem own_setC{w:World}{base g n cap size m:Nat}{e:TypeId}{xs:List Value}(h:w.ownsRow base e size (.slice (some ⟨g,0,none⟩) n cap) n xs)(u:Value):(w.setCell ⟨g,m,none⟩ u).ownsRow base e size (.slice (some ⟨g,0,none⟩) n cap) n (xs.set m u):=by
 rcases h.2 with⟨e,_⟩|⟨g',cap',cur,e,hBg,hg,hn,hm,hcs,hx⟩
 ·cases e
 ·injection e with e1 e2 e3;injection e1 with e1;injection e1 with e1;subst e1 e3;refine⟨by rw[List.length_set];exact h.1,.inr ⟨g,cap,cur.setIfInBounds m u,rfl,hBg,?_,hn,hm,by rw[Array.size_setIfInBounds,hcs],?_⟩⟩
  ·exact Blk.set_ (w:=w) (g:=g) (cs:=cur) hg m u
  ·rw[Array.toList_setIfInBounds,List.take_set,hx]
theorem SesC.set_{w:World}{B:Nat}{s':Se}{u:Value}{j:Nat}(hj:j<5): ∀{ss:List Se} {cs:List Value},SesC w B cs ss→∀(i:Nat) (hi:i<ss.length),
  (∀a b c d,OPL w B a ss[i].set→OPL w B b ss[i].pre→OPL w B c ss[i].sav→OPL w B d ss[i].wri→∃a' b' c' d',[Value.int .i64 ss[i].st,a,b,c,d].set j u=[.int .i64 s'.st,a',b',c',d']∧OPL w B a' s'.set∧OPL w B b' s'.pre∧OPL w B c' s'.sav∧OPL w B d' s'.wri∧(-9223372036854775808≤s'.st∧s'.st≤9223372036854775807))→
  SesC w B (cs.set (i*5+j) u) (ss.set i s')
 |s::ss,_,⟨a,b,c,d,rest,e,h1,h2,h3,h4,h5,h6⟩,i,hi,H=>by
  subst e;rcases i with _|i
  ·obtain⟨a',b',c',d',e,k⟩:=H a b c d h1 h2 h3 h4;have e2:(Value.int .i64 s.st::a::b::c::d::rest).set (0*5+j) u=[Value.int .i64 s'.st,a',b',c',d']++rest:=by
    rw[←e];have:(Value.int .i64 s.st::a::b::c::d::rest)=[Value.int .i64 s.st,a,b,c,d]++rest:=rfl;rw[this,Nat.zero_mul,Nat.zero_add,List.set_append_left _ _ (by simpa using hj)]
    rfl
   rw[e2];exact⟨a',b',c',d',rest,rfl,k.1,k.2.1,k.2.2.1,k.2.2.2.1,k.2.2.2.2,h6⟩
  ·have e1:(i+1)*5+j=(i*5+j)+5:=by omega
   rw[e1];exact⟨a,b,c,d,rest.set (i*5+j) u,rfl,h1,h2,h3,h4,h5,SesC.set_ hj h6 i (by simpa using hi) H⟩
structure SvAt(w0 w:World)(bv bw g cap i:Nat)(W:Wo):Prop where
 bel:Below w0.heap.size w0 w
 srv:Blk w bv 129 #[.pointer (some ⟨bw,0,none⟩),.int .i64 (i:Nat)]
 box: ∃r,Blk w bw 39 #[r,.slice (some ⟨g,0,none⟩) W.ses.length cap]∧OPL w w0.heap.size r W.rows
 ses: ∃cs,OSL w w0.heap.size (.slice (some ⟨g,0,none⟩) W.ses.length cap) W.ses cs
 hi:i<W.ses.length
 lv:w0.heap.size≤bv
 lw:w0.heap.size≤bw
section
variable {w0 w w':World}{bv bw g cap i:Nat}{W:Wo}
theorem SvAt.lg(h:SvAt w0 w bv bw g cap i W):w0.heap.size≤g∧g<w.heap.size:=by
 obtain⟨cs,hs⟩:=h.ses;exact hs.own.lt g rfl
theorem SvAt.rowg(h:SvAt w0 w bv bw g cap i W): ∃cs,Blk w g 133 cs:=by
 obtain⟨cs,hs⟩:=h.ses;rcases hs.own.2 with⟨e,_⟩|⟨g',cap',cur,e,hBg,hg,_⟩
 ·cases e
 ·injection e with e1 e2 e3;injection e1 with e1;injection e1 with e1;subst e1;exact⟨cur,hg⟩
theorem SvAt.gw(h:SvAt w0 w bv bw g cap i W):bw≠g:=by
 obtain⟨r,hb,_⟩:=h.box;obtain⟨cs,hg⟩:=h.rowg;exact hb.ne_ hg (by decide)
theorem SvAt.gv(h:SvAt w0 w bv bw g cap i W):bv≠g:=by
 obtain⟨cs,hg⟩:=h.rowg;exact h.srv.ne_ hg (by decide)
theorem SvAt.wv(h:SvAt w0 w bv bw g cap i W):bv≠bw:=by
 obtain⟨r,hb,_⟩:=h.box;exact h.srv.ne_ hb (by decide)
theorem SvAt.keep(h:SvAt w0 w bv bw g cap i W)(hb:Below w.heap.size w w'):SvAt w0 w' bv bw g cap i W:=by
 obtain⟨r,h1,h2⟩:=h.box;obtain⟨cs,h3⟩:=h.ses;exact⟨below_step h.bel leR hb,h.srv.keep hb,⟨r,h1.keep hb,h2.keeps (.of_below hb)⟩,⟨cs,(Keeps.of_below hb).own h3.own,h3.ses.keeps (.of_below hb)⟩,h.hi,h.lv,h.lw⟩
theorem SvAt.put_new(h:SvAt w0 w bv bw g cap i W){s':Se}{u:Value}{j:Nat}(hj:j<5)(hb:Below w.heap.size (w.setCell ⟨g,i*5+j,none⟩ u) w')
  (H: ∀a b c d,OPL w' w0.heap.size a (W.se i).set→OPL w' w0.heap.size b (W.se i).pre→OPL w' w0.heap.size c (W.se i).sav→OPL w' w0.heap.size d (W.se i).wri→∃a' b' c' d',[Value.int .i64 (W.se i).st,a,b,c,d].set j u=[.int .i64 s'.st,a',b',c',d']∧OPL w' w0.heap.size a' s'.set∧OPL w' w0.heap.size b' s'.pre∧OPL w' w0.heap.size c' s'.sav∧OPL w' w0.heap.size d' s'.wri∧(-9223372036854775808≤s'.st∧s'.st≤9223372036854775807)):
  SvAt w0 w' bv bw g cap i (W.put i s'):=by
 obtain⟨r,h1,h2⟩:=h.box;obtain⟨cs,h3⟩:=h.ses;obtain⟨cg,hg⟩:=h.rowg;have hz:(w.setCell ⟨g,i*5+j,none⟩ u).heap.size=w.heap.size:=by simp[World.setCell]
 have hb':Below (w.setCell ⟨g,i*5+j,none⟩ u).heap.size (w.setCell ⟨g,i*5+j,none⟩ u) w':=by rw[hz];exact hb
 have hse:W.se i=W.ses[i]'h.hi:=getD_at h.hi _;have kp:Keeps 60 w w':=(Keeps.set_ (p:=⟨g,i*5+j,none⟩) hg (by decide) u).trans (.of_below hb')
 have hl:(W.put i s').ses.length=W.ses.length:=put_length _ _ _;refine⟨below_step (h.bel.setCell h.lg.1 _) leR hb',(h.srv.far (p:=⟨g,i*5+j,none⟩) h.gv _).keep hb',⟨r,?_,h2.keeps kp⟩,⟨cs.set (i*5+j) u,?_,?_⟩,by rw[hl];exact h.hi,h.lv,h.lw⟩
 ·rw[hl];exact(h1.far (p:=⟨g,i*5+j,none⟩) h.gw _).keep hb'
 ·rw[hl];exact(Keeps.of_below hb').own (own_setC h3.own u)
 ·refine SesC.set_ hj (SesC.keeps kp h3.ses) i h.hi ?_;rw[←hse];exact H
theorem SvAt.put_(h:SvAt w0 w bv bw g cap i W){s':Se}{u:Value}{j:Nat}(hj:j<5)
  (H: ∀(w':World) a b c d,Keeps 60 w w'→OPL w' w0.heap.size a (W.se i).set→OPL w' w0.heap.size b (W.se i).pre→OPL w' w0.heap.size c (W.se i).sav→OPL w' w0.heap.size d (W.se i).wri→∃a' b' c' d',[Value.int .i64 (W.se i).st,a,b,c,d].set j u=[.int .i64 s'.st,a',b',c',d']∧OPL w' w0.heap.size a' s'.set∧OPL w' w0.heap.size b' s'.pre∧OPL w' w0.heap.size c' s'.sav∧OPL w' w0.heap.size d' s'.wri∧(-9223372036854775808≤s'.st∧s'.st≤9223372036854775807)):
  SvAt w0 (w.setCell ⟨g,i*5+j,none⟩ u) bv bw g cap i (W.put i s'):=by
 obtain⟨cg,hg⟩:=h.rowg;exact h.put_new hj bR fun a b c d h1 h2 h3 h4=>H _ a b c d (Keeps.set_ (p:=⟨g,i*5+j,none⟩) hg (by decide) u) h1 h2 h3 h4
theorem SvAt.rows_new(h:SvAt w0 w bv bw g cap i W){u:Value}{l:List Pr}(hb:Below w.heap.size (w.setCell ⟨bw,0,none⟩ u) w')(hu:OPL w' w0.heap.size u l):SvAt w0 w' bv bw g cap i ⟨l,W.ses⟩:=by
 obtain⟨r,h1,h2⟩:=h.box;obtain⟨cs,h3⟩:=h.ses;have hz:(w.setCell ⟨bw,0,none⟩ u).heap.size=w.heap.size:=by simp[World.setCell]
 have hb':Below (w.setCell ⟨bw,0,none⟩ u).heap.size (w.setCell ⟨bw,0,none⟩ u) w':=by rw[hz];exact hb
 have kp: ∀t,39≠t→Keeps t w w':=fun t ht=>(Keeps.set_ (p:=⟨bw,0,none⟩) h1 ht u).trans (.of_below hb');exact⟨below_step (h.bel.setCell h.lw _) leR hb',(h.srv.far (p:=⟨bw,0,none⟩) h.wv _).keep hb',⟨u,(h1.set_ 0 u).keep hb',hu⟩,⟨cs,(kp _ (by decide)).own h3.own,h3.ses.keeps (kp _ (by decide))⟩,h.hi,h.lv,h.lw⟩
theorem below_set{B:Nat}{a b:World}(h:Below B a b)(p:Addr)(u:Value):Below B (a.setCell p u) (b.setCell p u):=by
 refine⟨h.os,h.tape,h.output,by simpa[World.setCell]using h.size,fun k hk=>?_⟩
 simp only[World.setCell,Array.getElem?_modify];rw[h.block k hk]
theorem Only2.of_set{a b:Nat}{w w':World}{p:Addr}{u:Value}(hp:p.block=a∨p.block=b)(h:Below w.heap.size (w.setCell p u) w'):Only2 a b w w':=by
 have hz:(w.setCell p u).heap.size=w.heap.size:=by simp[World.setCell]
 exact((Only2.refl a b w).set_ hp u).trans (.of_below (by rw[hz];exact h))
structure Vw(w:World)(B bv bw g cap i n:Nat)(rows:List Pr)(s:Se)(Ar:Option Addr)(cr:Nat)(A1:Option Addr)(k1:Nat)(A2:Option Addr)(k2:Nat)(A3:Option Addr)(k3:Nat)(A4:Option Addr)(k4:Nat):Prop where
 s0:w.cell? ⟨bv,0,none⟩=some (.pointer (some ⟨bw,0,none⟩))
 s1:w.cell? ⟨bv,1,none⟩=some (.int .i64 (i:Nat))
 b0:w.cell? ⟨bw,0,none⟩=some (.slice Ar rows.length cr)
 b1:w.cell? ⟨bw,1,none⟩=some (.slice (some ⟨g,0,none⟩) n cap)
 c0:w.cell? ⟨g,i*5,none⟩=some (.int .i64 s.st)
 c1:w.cell? ⟨g,i*5+1,none⟩=some (.slice A1 s.set.length k1)
 c2:w.cell? ⟨g,i*5+2,none⟩=some (.slice A2 s.pre.length k2)
 c3:w.cell? ⟨g,i*5+3,none⟩=some (.slice A3 s.sav.length k3)
 c4:w.cell? ⟨g,i*5+4,none⟩=some (.slice A4 s.wri.length k4)
 fb: ∀j,w.frozen? ⟨bw,j,none⟩=false
 fg: ∀j,w.frozen? ⟨g,j,none⟩=false
 o0:OPL w B (.slice Ar rows.length cr) rows
 o1:OPL w B (.slice A1 s.set.length k1) s.set
 o2:OPL w B (.slice A2 s.pre.length k2) s.pre
 o3:OPL w B (.slice A3 s.sav.length k3) s.sav
 o4:OPL w B (.slice A4 s.wri.length k4) s.wri
theorem Vw.keep{B n:Nat}{rows:List Pr}{s:Se}{Ar A1 A2 A3 A4:Option Addr}{cr k1 k2 k3 k4:Nat}(h:Vw w B bv bw g cap i n rows s Ar cr A1 k1 A2 k2 A3 k3 A4 k4)(hb:Below w.heap.size w w'):Vw w' B bv bw g cap i n rows s Ar cr A1 k1 A2 k2 A3 k3 A4 k4:=
 ⟨keep_cell hb h.s0,keep_cell hb h.s1,keep_cell hb h.b0,keep_cell hb h.b1,keep_cell hb h.c0,keep_cell hb h.c1,keep_cell hb h.c2,keep_cell hb h.c3,keep_cell hb h.c4,
  fun j=>(hb.frozen (p:=⟨bw,j,none⟩) (show(⟨bw,0,none⟩:Addr).block<_ from World.block_lt_of_cell? w _ h.b0)).trans (h.fb j),fun j=>(hb.frozen (p:=⟨g,j,none⟩) (show(⟨g,i*5,none⟩:Addr).block<_ from World.block_lt_of_cell? w _ h.c0)).trans (h.fg j),
  h.o0.keeps (.of_below hb),h.o1.keeps (.of_below hb),h.o2.keeps (.of_below hb),h.o3.keeps (.of_below hb),h.o4.keeps (.of_below hb)⟩
theorem SvAt.view(h:SvAt w0 w bv bw g cap i W): ∃Ar cr A1 k1 A2 k2 A3 k3 A4 k4,Vw w w0.heap.size bv bw g cap i W.ses.length W.rows (W.se i) Ar cr A1 k1 A2 k2 A3 k3 A4 k4:=by
 obtain⟨r,h1,h2⟩:=h.box;obtain⟨cs,h3⟩:=h.ses;obtain⟨cg,hg⟩:=h.rowg;obtain⟨a,b,c,d,k0,k1,k2,k3,k4,o1,o2,o3,o4,o5⟩:=SesC.at_ h3.ses i h.hi;have hse:W.se i=W.ses[i]'h.hi:=getD_at h.hi _;rw[←hse]at k0 o1 o2 o3 o4;have hc:=h3.own.cells (g:=g) rfl;have hadd: ∀n,(⟨g,0,none⟩:Addr).add n=⟨g,n,none⟩:=fun n=>by unfold Addr.add;split<;>simp_all
 obtain⟨Ar,cr,rfl⟩:=h2.form;obtain⟨A1,c1,rfl⟩:=o1.form;obtain⟨A2,c2,rfl⟩:=o2.form;obtain⟨A3,c3,rfl⟩:=o3.form;obtain⟨A4,c4,rfl⟩:=o4.form;refine⟨Ar,cr,A1,c1,A2,c2,A3,c3,A4,c4,h.srv.cell_ 0 _ rfl,h.srv.cell_ 1 _ rfl,h1.cell_ 0 _ rfl,h1.cell_ 1 _ rfl,?_,?_,?_,?_,?_,h1.frozen,hg.frozen,h2,o1,o2,o3,o4⟩
 ·rw[←hadd];exact hc _ _ k0
 ·rw[←hadd];exact hc _ _ k1
 ·rw[←hadd];exact hc _ _ k2
 ·rw[←hadd];exact hc _ _ k3
 ·rw[←hadd];exact hc _ _ k4
theorem SvAt.sl(h:SvAt w0 w bv bw g cap i W)(hz:W.ses.length≤1000):SL w w.heap.size (.slice (some ⟨g,0,none⟩) W.ses.length cap) W.ses:=by
 obtain⟨cs,h3⟩:=h.ses;exact h3.sl (by omega)
theorem SvAt.wl(h:SvAt w0 w bv bw g cap i W)(hz:W.ses.length≤1000){r:Value}(hr:OPL w w0.heap.size r W.rows):WL w w.heap.size r (.slice (some ⟨g,0,none⟩) W.ses.length cap) W:=⟨hr.pl,h.sl hz⟩
theorem SvAt.st64(h:SvAt w0 w bv bw g cap i W): -9223372036854775808≤(W.se i).st∧(W.se i).st≤9223372036854775807:=by
 obtain⟨cs,h3⟩:=h.ses;obtain⟨a,b,c,d,_,_,_,_,_,_,_,_,_,o5⟩:=SesC.at_ h3.ses i h.hi;have hse:W.se i=W.ses[i]'h.hi:=getD_at h.hi _;rw[hse];exact o5
theorem put_self(W:Wo){i:Nat}(hi:i<W.ses.length)(s:Se):(W.put i s).se i=s:=by rw[se_put W hi,if_pos rfl]
theorem put_put(W:Wo)(i:Nat)(s t:Se):(W.put i s).put i t=W.put i t:=by
 unfold Wo.put;rw[List.set_set]
theorem SvAt.fin3(h:SvAt w0 w bv bw g cap i W):SvAt w0 (((w.setCell ⟨g,i*5,none⟩ (.int .i64 0)).setCell ⟨g,i*5+3,none⟩ (.slice none 0 0)).setCell ⟨g,i*5+4,none⟩ (.slice none 0 0)) bv bw g cap i (W.put i ⟨0,(W.se i).set,(W.se i).pre,[],[]⟩):=by
 have h1:SvAt w0 (w.setCell ⟨g,i*5,none⟩ (.int .i64 0)) bv bw g cap i (W.put i ⟨0,(W.se i).set,(W.se i).pre,(W.se i).sav,(W.se i).wri⟩):=
  h.put_ (j:=0) (by decide) fun w' a b c d hk h1 h2 h3 h4=>⟨a,b,c,d,rfl,h1,h2,h3,h4,show(-9223372036854775808:Int)≤0 by decide,show(0:Int)≤9223372036854775807 by decide⟩
 have h2:=h1.put_ (j:=3) (u:=.slice none 0 0) (s':=⟨0,(W.se i).set,(W.se i).pre,[],(W.se i).wri⟩) (by decide) fun w' a b c d hk k1 k2 k3 k4=>by
  rw[put_self W h.hi]at k1 k2 k3 k4⊢;exact⟨a,b,_,d,rfl,k1,k2,OPL.nil_ _ _,k4,show(-9223372036854775808:Int)≤0 by decide,show(0:Int)≤9223372036854775807 by decide⟩
 rw[put_put]at h2;have h3:=h2.put_ (j:=4) (u:=.slice none 0 0) (s':=⟨0,(W.se i).set,(W.se i).pre,[],[]⟩) (by decide) fun w' a b c d hk k1 k2 k3 k4=>by
  rw[put_self W h.hi]at k1 k2 k3 k4⊢;exact⟨a,b,c,_,rfl,k1,k2,k3,OPL.nil_ _ _,show(-9223372036854775808:Int)≤0 by decide,show(0:Int)≤9223372036854775807 by decide⟩
 rw[put_put]at h3;exact h3
def SvR(w0 w:World)(bv bw g cap i:Nat)(R:Wo × An)(e:Ending)(w':World):Prop:=e= .returned (anV R.2)∧SvAt w0 w' bv bw g cap i R.1∧Only2 bw g w w'
structure Mth(w0 w wx:World)(bv bw g cap i b:Nat)(W:Wo):Prop where
 sv:SvAt w0 wx bv bw g cap i W
 res:Blk wx b 46 #[.int .i64 0,.string ⟨#[]⟩,.int .i64 0]
 only:Only2 bw g w wx
 hb:w.heap.size≤b
 h0:w0.heap.size≤b
theorem Mth.start(h:SvAt w0 w bv bw g cap i W):Mth w0 w (w.alloc (.cells #[.int .i64 0,.string ⟨#[]⟩,.int .i64 0] 46)) bv bw g cap i w.heap.size W:=
 ⟨h.keep (boxed w _),Blk.new w _ _,.of_below (boxed w _),Nat.le_refl _,h.bel.size⟩
theorem Mth.keep{wx wy:World}{b:Nat}(h:Mth w0 w wx bv bw g cap i b W)(hb:Below wx.heap.size wx wy):Mth w0 w wy bv bw g cap i b W:=
 ⟨h.sv.keep hb,h.res.keep hb,h.only.below hb,h.hb,h.h0⟩
theorem Mth.ng{wx:World}{b:Nat}(h:Mth w0 w wx bv bw g cap i b W):b≠g∧g≠b:=by
 obtain⟨cs,hg⟩:=h.sv.rowg;exact⟨h.res.ne_ hg (by decide),(h.res.ne_ hg (by decide)).symm⟩
theorem Mth.nw{wx:World}{b:Nat}(h:Mth w0 w wx bv bw g cap i b W):b≠bw∧bw≠b:=by
 obtain⟨r,h1,_⟩:=h.sv.box;exact⟨h.res.ne_ h1 (by decide),(h.res.ne_ h1 (by decide)).symm⟩
theorem Mth.set_4{wx:World}{b:Nat}{u:Value}{l:List Pr}(h:Mth w0 w wx bv bw g cap i b W)(hu:OPL wx w0.heap.size u l):Mth w0 w (wx.setCell ⟨g,i*5+4,none⟩ u) bv bw g cap i b (W.put i ⟨(W.se i).st,(W.se i).set,(W.se i).pre,(W.se i).sav,l⟩):=
 ⟨h.sv.put_ (j:=4) (by decide) fun w' a b c d hk h1 h2 h3 h4=>⟨a,b,c,u,rfl,h1,h2,h3,hu.keeps hk,h.sv.st64⟩,h.res.far (p:=⟨g,i*5+4,none⟩) h.ng.1 _,h.only.set_ (.inr rfl) _,h.hb,h.h0⟩
theorem Mth.set_r{wx:World}{b:Nat}{u:Value}{l:List Pr}(h:Mth w0 w wx bv bw g cap i b W)(hu:OPL wx w0.heap.size u l):Mth w0 w (wx.setCell ⟨bw,0,none⟩ u) bv bw g cap i b ⟨l,W.ses⟩:=by
 obtain⟨r,h1,_⟩:=h.sv.box;exact⟨h.sv.rows_new bR (hu.keeps (Keeps.set_ (p:=⟨bw,0,none⟩) h1 (by decide) u)),h.res.far (p:=⟨bw,0,none⟩) h.nw.1 _,h.only.set_ (.inl rfl) _,h.hb,h.h0⟩
theorem Mth.step{wx wy:World}{b:Nat}{W':Wo}(h:Mth w0 w wx bv bw g cap i b W)(hs:SvAt w0 wy bv bw g cap i W')(ho:Only2 bw g wx wy):Mth w0 w wy bv bw g cap i b W':=
 ⟨hs,ho.blk h.res h.nw.1 h.ng.1,h.only.trans ho,h.hb,h.h0⟩
theorem Mth.begin_{wx:World}{b:Nat}{u:Value}(h:Mth w0 w wx bv bw g cap i b W)(hu:OPL wx w0.heap.size u (W.se i).set):Mth w0 w ((wx.setCell ⟨g,i*5,none⟩ (.int .i64 1)).setCell ⟨g,i*5+3,none⟩ u) bv bw g cap i b (W.put i ⟨1,(W.se i).set,(W.se i).pre,(W.se i).set,(W.se i).wri⟩):=by
 obtain⟨cg,hg⟩:=h.sv.rowg;have kp:=Keeps.set_ (t':=133) (t:=60) (p:=⟨g,i*5,none⟩) hg (by decide) (.int .i64 1)
 have h1:SvAt w0 (wx.setCell ⟨g,i*5,none⟩ (.int .i64 1)) bv bw g cap i (W.put i ⟨1,(W.se i).set,(W.se i).pre,(W.se i).sav,(W.se i).wri⟩):=
  h.sv.put_ (j:=0) (by decide) fun w' a b c d hk h1 h2 h3 h4=>⟨a,b,c,d,rfl,h1,h2,h3,h4,show(-9223372036854775808:Int)≤1 by decide,show(1:Int)≤9223372036854775807 by decide⟩
 have h2:=h1.put_ (j:=3) (u:=u) (s':=⟨1,(W.se i).set,(W.se i).pre,(W.se i).set,(W.se i).wri⟩) (by decide) fun w' a b c d hk k1 k2 k3 k4=>by
  rw[put_self W h.sv.hi]at k1 k2 k3 k4⊢;exact⟨a,b,_,d,rfl,k1,k2,(hu.keeps kp).keeps hk,k4,show(-9223372036854775808:Int)≤1 by decide,show(1:Int)≤9223372036854775807 by decide⟩
 rw[put_put]at h2;exact⟨h2,(h.res.far (p:=⟨g,i*5,none⟩) h.ng.1 _).far (p:=⟨g,i*5+3,none⟩) h.ng.1 _,(h.only.set_ (.inr rfl) _).set_ (.inr rfl) _,h.hb,h.h0⟩
theorem Mth.reset_{wx:World}{b:Nat}(h:Mth w0 w wx bv bw g cap i b W):Mth w0 w ((wx.setCell ⟨g,i*5+1,none⟩ (.slice none 0 0)).setCell ⟨g,i*5+2,none⟩ (.slice none 0 0)) bv bw g cap i b (W.put i ⟨(W.se i).st,[],[],(W.se i).sav,(W.se i).wri⟩):=by
 have h1:=h.sv.put_ (j:=1) (u:=.slice none 0 0) (s':=⟨(W.se i).st,[],(W.se i).pre,(W.se i).sav,(W.se i).wri⟩) (by decide) fun w' a b c d hk h1 h2 h3 h4=>⟨_,b,c,d,rfl,OPL.nil_ _ _,h2,h3,h4,h.sv.st64⟩
 have h2:=h1.put_ (j:=2) (u:=.slice none 0 0) (s':=⟨(W.se i).st,[],[],(W.se i).sav,(W.se i).wri⟩) (by decide) fun w' a b c d hk k1 k2 k3 k4=>by
  rw[put_self W h.sv.hi]at k1 k2 k3 k4⊢;exact⟨a,_,c,d,rfl,k1,OPL.nil_ _ _,k3,k4,h.sv.st64⟩
 rw[put_put]at h2;exact⟨h2,(h.res.far (p:=⟨g,i*5+1,none⟩) h.ng.1 _).far (p:=⟨g,i*5+2,none⟩) h.ng.1 _,(h.only.set_ (.inr rfl) _).set_ (.inr rfl) _,h.hb,h.h0⟩
theorem Mth.new_1{wx wy:World}{b:Nat}{u:Value}{l:List Pr}(h:Mth w0 w wx bv bw g cap i b W)(hb:Below wx.heap.size (wx.setCell ⟨g,i*5+1,none⟩ u) wy)(hu:OPL wy w0.heap.size u l):SvAt w0 wy bv bw g cap i (W.put i ⟨(W.se i).st,l,(W.se i).pre,(W.se i).sav,(W.se i).wri⟩)∧Only2 bw g wx wy:=
 ⟨h.sv.put_new (j:=1) (by decide) hb fun a b c d h1 h2 h3 h4=>⟨_,b,c,d,rfl,hu,h2,h3,h4,h.sv.st64⟩,Only2.of_set (.inr rfl) hb⟩
theorem Mth.new_2{wx wy:World}{b:Nat}{u:Value}{l:List Pr}(h:Mth w0 w wx bv bw g cap i b W)(hb:Below wx.heap.size (wx.setCell ⟨g,i*5+2,none⟩ u) wy)(hu:OPL wy w0.heap.size u l):SvAt w0 wy bv bw g cap i (W.put i ⟨(W.se i).st,(W.se i).set,l,(W.se i).sav,(W.se i).wri⟩)∧Only2 bw g wx wy:=
 ⟨h.sv.put_new (j:=2) (by decide) hb fun a b c d h1 h2 h3 h4=>⟨a,_,c,d,rfl,h1,hu,h3,h4,h.sv.st64⟩,Only2.of_set (.inr rfl) hb⟩
theorem Mth.fin{wx:World}{b:Nat}(h:Mth w0 w wx bv bw g cap i b W)(R:Wo × An)(hR:R.1=W)(x y z:Value)(e:Ending)(he:e= .returned (anV R.2)):
  SvR w0 w bv bw g cap i R e (((wx.setCell ⟨b,0,none⟩ x).setCell ⟨b,1,none⟩ y).setCell ⟨b,2,none⟩ z):=by
 have hbl: ∀w':World,SvAt w0 w' bv bw g cap i W→∀cs,Blk w' b 46 cs→∀j u,SvAt w0 (w'.setCell ⟨b,j,none⟩ u) bv bw g cap i W:=by
  intro w' hs cs hb j u;obtain⟨r,h1,h2⟩:=hs.box;obtain⟨cs',h3⟩:=hs.ses;have kp: ∀t,46≠t→Keeps t w' (w'.setCell ⟨b,j,none⟩ u):=fun t ht=>Keeps.set_ (p:=⟨b,j,none⟩) hb ht u;refine⟨hs.bel.setCell h.h0 _,hs.srv.far (p:=⟨b,j,none⟩) (hs.srv.ne_ hb (by decide)) _,⟨r,h1.far (p:=⟨b,j,none⟩) (h1.ne_ hb (by decide)) _,h2.keeps (kp _ (by decide))⟩,⟨cs',(kp _ (by decide)).own h3.own,h3.ses.keeps (kp _ (by decide))⟩,hs.hi,hs.lv,hs.lw⟩
 subst hR;exact⟨he,hbl _ (hbl _ (hbl _ h.sv _ h.res 0 x) _ (h.res.set_ 0 x) 1 y) _ ((h.res.set_ 0 x).set_ 1 y) 2 z,((h.only.set_new h.hb _).set_new h.hb _).set_new h.hb _⟩
end
def valV:Option ByteArray→Value
 |some v=>.tuple #[.string v,.bool true]
 |none=>.tuple #[.string ⟨#[]⟩,.bool false]
theorem failed_any(t:ByteArray)(w:World):Calls Tryz.prog 94 #[.string t] w fun e w'=>e= .returned (.agg #[.int .i64 4,.string t,.int .i64 0])∧Below w.heap.size w w':=by
 go_enter func94,ntmps94
 go_wp2_with fail
 refine bodyPost_ret (v:=.agg #[.int .i64 4,.string t,.int .i64 0]) (by simp[results,results94,go_sem]) rfl ⟨rfl,boxed _ _⟩
theorem told_some(v:ByteArray)(w:World):Calls Tryz.prog 96 #[.string v,.bool true] w fun e w'=>e= .returned (.agg #[.int .i64 2,.string v,.int .i64 0])∧Below w.heap.size w w':=by
 go_enter func96,ntmps96
 go_wp2_with fail
 refine bodyPost_ret (v:=.agg #[.int .i64 2,.string v,.int .i64 0]) (by simp[results,results96,go_sem]) rfl ⟨rfl,boxed _ _⟩
theorem told_none(v:ByteArray)(w:World):Calls Tryz.prog 96 #[.string v,.bool false] w fun e w'=>e= .returned (.agg #[.int .i64 3,.string ⟨#[]⟩,.int .i64 0])∧Below w.heap.size w w':=by
 go_enter func96,ntmps96
 go_wp2_with fail
 refine bodyPost_ret (v:=.agg #[.int .i64 3,.string ⟨#[]⟩,.int .i64 0]) (by simp[results,results96,go_sem]) rfl ⟨rfl,boxed _ _⟩
theorem bvalue_any(w:World)(v:Value)(l:List Pr)(k:ByteArray)(h:PL w w.heap.size v l)(hs:Sorted l):
  Calls Tryz.prog 97 #[v,.string k] w fun e w'=>e= .returned (valV (atP l k))∧Below w.heap.size w w':=by
 have H:=Hd h;have HS:=Hd hs;obtain⟨A,c,rfl,hc,hr,hf⟩:=h;have HR:=Hd hr;obtain⟨z,hz⟩: ∃z,valV (atP l k)=z:=⟨_,rfl⟩;rw[hz];have HZ:=Hd hz;clear hs hc hr hf hz;go_enter func97,ntmps97
 go_wp2_with fail
 refine(find_any _ _ l k H.out).mono ?_;rintro e w1 ⟨i,b,rfl,hf,b1⟩;have HF:=Hd hf;have HB:=Hd b1;clear hf b1;cases b with
 |true=>
  obtain⟨hi,hik⟩:=HF.out.here rfl;obtain⟨ad,hA,hBl,x1,x2⟩:=pair_at (HR.out.below HB.out) hi;subst hA;obtain⟨u,hu⟩: ∃u,l[i].v=u:=⟨_,rfl⟩;rw[hu]at x2;have e1:=HZ.out;obtain⟨e2,e3⟩:=HF.out.sorted HS.out;subst e2;rw[at_pos HS.out k hi hik,hu]at e1;have HE:=Hd e1;have g1:((posP l k:Nat):Int)<(l.length:Int):=by omega
  have g2:(0:Int)≤((posP l k:Nat):Int):=by omega
  clear x1 hu hik e1 e3;obtain⟨q,hq⟩: ∃q,posP l k=q:=⟨_,rfl⟩;rw[hq]at x2 g1 g2⊢;clear hq;go_wp2_with fail
  go_ret2
  exact⟨by rw[←HE.out];rfl,HB.out⟩
 |false=>
  have e1:=HZ.out;rw[at_none (HF.out.sorted HS.out).2.symm]at e1;have HE:=Hd e1;clear e1;go_wp2_with fail
  go_ret2
  exact⟨by rw[←HE.out];rfl,HB.out⟩
def KeepR(w:World)(B:Nat)(p:Addr)(l:List Pr)(k v:ByteArray)(e:Ending)(w':World):Prop:=
 (keepP l k v=none∧e= .returned (anV (noA tFull))∧Below w.heap.size w w')∨
 (∃u,keepP l k v=some (plusP l k v)∧e= .returned (anV okA)∧OPL w' B u (plusP l k v)∧Below w.heap.size (w.setCell p u) w')
theorem keep_any(w:World)(g o B:Nat)(u:Value)(l:List Pr)(k v:ByteArray)(hc:w.cell? ⟨g,o,none⟩=some u)(hf:w.frozen? ⟨g,o,none⟩=false)(h:PL w w.heap.size u l)(hs:Sorted l)(hl:l.length≤1000)(hk:k.size≤maxLen)(hv:v.size≤maxLen)(hB:B≤w.heap.size)(t:TypeId)(cs:Array Value)(hg:Blk w g t cs)(ht:t≠60):
  Calls Tryz.prog 98 #[.pointer (some ⟨g,o,none⟩),.int .i64 6,.string k,.string v] w (KeepR w B ⟨g,o,none⟩ l k v):=by
 obtain⟨A,c,hu⟩:=h.form;subst hu;obtain⟨n,hn⟩: ∃n,l.length=n:=⟨_,rfl⟩;rw[hn]at hl hc h;have H:=Hd h;have HS:=Hd hs;have HKV:=Hd (And.intro hk hv);have hgl:g<w.heap.size:=World.block_lt_of_cell? w _ hc;have hne:=Nat.ne_of_lt hgl;have HN:=Hd hn;have HC:=Hd hc;have HG:=Hd hg;have HT:=Hd ht;clear h hs hk hv hn hg ht;go_enter func98,ntmps98
 go_wp2_with fail
 refine(find_any _ _ l k ((H.out.below (boxed _ _)).more (by simp))).mono ?_
 rintro e w1 ⟨i,b,rfl,hfd,b1⟩;have HF:=Hd hfd;have RB:=Blk.keep (Blk.new w 46 #[.int .i64 0,.string ⟨#[]⟩,.int .i64 0]) b1;have y0:=RB.cell_ 0 _ rfl;have y1:=RB.cell_ 1 _ rfl;have y2:=RB.cell_ 2 _ rfl;have f0:=RB.frozen;have R1:=Hd RB;have hb1:=below_of_alloc leR b1;have hc1:=keep_cell hb1 hc;have hf1:=keep_frozen hb1 hc hf;have HB1:=Hd hb1;clear b1 hb1 hc hf hfd RB;cases b with
 |false=>
  have hno:=(HF.out.sorted HS.out).2.symm;by_cases h6:n=6
  ·have HK:=Hd (show keepP l k v=none by unfold keepP;rw[if_pos ⟨hno,by rw[HN.out];exact h6⟩])
   subst h6;clear hno;go_wp2_with fail
   refine(failed_any _ _).mono ?_;rintro e w2 ⟨rfl,b2⟩;have RB:=R1.out.keep b2;have z0:=RB.cell_ 0 _ rfl;have z1:=RB.cell_ 1 _ rfl;have z2:=RB.cell_ 2 _ rfl;have fz:=RB.frozen;have R2:=Hd RB;have HB2:=Hd (below_step HB1.out leR b2);clear b2 RB y0 y1 y2 f0 hc1 hf1;go_wp2_with fail
   have RB:=((R2.out.set_ 0 (.int .i64 4)).set_ 1 (.string ⟨#[102,117,108,108]⟩)).set_ 2 (.int .i64 0);have t0:=RB.cell_ 0 _ rfl;have t1:=RB.cell_ 1 _ rfl;have t2:=RB.cell_ 2 _ rfl;clear z0 z1 z2;refine bodyPost_ret (v:=.agg #[.int .i64 4,.string ⟨#[102,117,108,108]⟩,.int .i64 0]) (by simp[results,results98,go_sem,t0,t1,t2]) rfl (.inl ⟨HK.out,rfl,?_⟩)
   exact((HB2.out.setCell leR _).setCell leR _).setCell leR _
  ·have HK:=Hd (show keepP l k v=some (plusP l k v)by unfold keepP;rw[if_neg (fun h=>h6 (by rw[←HN.out];exact h.2))])
   have g1:((n:Int)==6)=false:=by simp;omega
   clear hno h6;go_wp2_with fail
   refine(with_any _ _ l k v ((H.out.below HB1.out).more HB1.out.size) HS.out (by rw[HN.out];omega) HKV.out.1 HKV.out.2).mono ?_
   rintro e w2 ⟨u2,rfl,ho,b2⟩;have HO:=Hd (ho.base (Nat.le_trans hB HB1.out.size));obtain⟨A2,c2,rfl⟩:=ho.form;have RB:=R1.out.keep b2;have z0:=RB.cell_ 0 _ rfl;have z1:=RB.cell_ 1 _ rfl;have z2:=RB.cell_ 2 _ rfl;have fz:=RB.frozen;have hc2:=keep_cell b2 hc1;have hf2:=keep_frozen b2 hc1 hf1;have R2:=Hd RB;have HB2:=Hd (below_step HB1.out leR b2);obtain⟨m,hm⟩: ∃m,(plusP l k v).length=m:=⟨_,rfl⟩;rw[hm]at HO⊢;clear b2 RB y0 y1 y2 f0 hc1 hf1 ho hm;go_wp2_with fail
   have G2:=(HG.out.below HB2.out hgl);have RB1:=R2.out.far (p:=⟨g,o,none⟩) (Ne.symm hne) (.slice A2 m c2);have RB:=((RB1.set_ 0 (.int .i64 1)).set_ 1 (.string ⟨#[]⟩)).set_ 2 (.int .i64 0);have t0:=RB.cell_ 0 _ rfl;have t1:=RB.cell_ 1 _ rfl;have t2:=RB.cell_ 2 _ rfl;clear z0 z1 z2;refine bodyPost_ret (v:=.agg #[.int .i64 1,.string ⟨#[]⟩,.int .i64 0]) (by simp[results,results98,go_sem,t0,t1,t2]) rfl (.inr ⟨.slice A2 m c2,HK.out,rfl,?_,?_⟩)
   ·exact HO.out.keeps ((((Keeps.set_ (p:=⟨g,o,none⟩) G2 HT.out _).trans (Keeps.set_ (p:=⟨w.heap.size,0,none⟩) RB1 (by decide) _)).trans (Keeps.set_ (p:=⟨w.heap.size,1,none⟩) (RB1.set_ 0 _) (by decide) _)).trans (Keeps.set_ (p:=⟨w.heap.size,2,none⟩) ((RB1.set_ 0 _).set_ 1 _) (by decide) _))
   ·exact(((below_set HB2.out _ _).setCell leR _).setCell leR _).setCell leR _
 |true=>
  have HK:=Hd (show keepP l k v=some (plusP l k v)by unfold keepP;rw[if_neg (fun h=>by rw[←(HF.out.sorted HS.out).2]at h;exact absurd h.1 (by decide))])
  go_wp2_with fail
  refine(with_any _ _ l k v ((H.out.below HB1.out).more HB1.out.size) HS.out (by rw[HN.out];omega) HKV.out.1 HKV.out.2).mono ?_
  rintro e w2 ⟨u2,rfl,ho,b2⟩;have HO:=Hd (ho.base (Nat.le_trans hB HB1.out.size));obtain⟨A2,c2,rfl⟩:=ho.form;have RB:=R1.out.keep b2;have z0:=RB.cell_ 0 _ rfl;have z1:=RB.cell_ 1 _ rfl;have z2:=RB.cell_ 2 _ rfl;have fz:=RB.frozen;have hc2:=keep_cell b2 hc1;have hf2:=keep_frozen b2 hc1 hf1;have R2:=Hd RB;have HB2:=Hd (below_step HB1.out leR b2);obtain⟨m,hm⟩: ∃m,(plusP l k v).length=m:=⟨_,rfl⟩;rw[hm]at HO⊢;clear b2 RB y0 y1 y2 f0 hc1 hf1 ho hm;go_wp2_with fail
  have G2:=(HG.out.below HB2.out hgl);have RB1:=R2.out.far (p:=⟨g,o,none⟩) (Ne.symm hne) (.slice A2 m c2);have RB:=((RB1.set_ 0 (.int .i64 1)).set_ 1 (.string ⟨#[]⟩)).set_ 2 (.int .i64 0);have t0:=RB.cell_ 0 _ rfl;have t1:=RB.cell_ 1 _ rfl;have t2:=RB.cell_ 2 _ rfl;clear z0 z1 z2;refine bodyPost_ret (v:=.agg #[.int .i64 1,.string ⟨#[]⟩,.int .i64 0]) (by simp[results,results98,go_sem,t0,t1,t2]) rfl (.inr ⟨.slice A2 m c2,HK.out,rfl,?_,?_⟩)
  ·exact HO.out.keeps ((((Keeps.set_ (p:=⟨g,o,none⟩) G2 HT.out _).trans (Keeps.set_ (p:=⟨w.heap.size,0,none⟩) RB1 (by decide) _)).trans (Keeps.set_ (p:=⟨w.heap.size,1,none⟩) (RB1.set_ 0 _) (by decide) _)).trans (Keeps.set_ (p:=⟨w.heap.size,2,none⟩) ((RB1.set_ 0 _).set_ 1 _) (by decide) _))
  ·exact(((below_set HB2.out _ _).setCell leR _).setCell leR _).setCell leR _
theorem plusAll_snoc(l m:List Pr)(p:Pr):plusAll l (m++[p])=plusP (plusAll l m) p.k p.v:=by unfold plusAll;rw[List.foldl_append];rfl
theorem plusAll_sorted{l:List Pr}(h:Sorted l): ∀m:List Pr,Sorted (plusAll l m)∧(plusAll l m).length≤l.length+m.length:=by
 intro m;induction m generalizing l with
 |nil=>exact⟨h,Nat.le_refl _⟩
 |cons p m ih=>
  have h1:=ih (plus_sorted h p.k p.v);refine⟨h1.1,Nat.le_trans h1.2 ?_⟩;rw[plus_length l p.k p.v h,List.length_cons];split<;>omega
def EndR(w0 w:World)(bv bw g cap i:Nat)(W:Wo)(e:Ending)(w':World):Prop:=e= .returned (.tuple #[])∧SvAt w0 w' bv bw g cap i W∧Only2 bw g w w'
theorem end_no(w0 w:World)(bv bw g cap i:Nat)(W:Wo)(hS:SvAt w0 w bv bw g cap i W)(_hG:W.ses.length≤8):
  Calls Tryz.prog 123 #[.pointer (some ⟨bv,0,none⟩),.bool false] w (EndR w0 w bv bw g cap i (endW W i false)):=by
 have hi:=hS.hi;obtain⟨Ar,cr,A1,k1,A2,k2,A3,k3,A4,k4,V⟩:=hS.view;have HS:=Hd (hS.keep bR.drew);have V0:=Hd (V.keep bR.drew);have HO:=Hd ((Only2.refl bw g w).drew);obtain⟨n,hn⟩: ∃n,W.ses.length=n:=⟨_,rfl⟩;rw[hn]at V0 hi;have g1:(i:Int)<(n:Int):=by omega
 have g2:(0:Int)≤(i:Int):=by omega
 clear hS V hn;go_enter func123,ntmps123
 go_wp2_with fail
 have s0:=V0.out.s0;have s1:=V0.out.s1;have b1:=V0.out.b1;refine region_sg [] ?_;refine anyB_sg [0,1,2,3,4,5,6,7,8,9,10,11,12] 0 ?_;go_wp2_with fail
 refine sg_o ?_;refine anyB_dn ?_;clear s0 s1 b1;generalize w.drew=x at HS V0 HO⊢;have c1:=V0.out.c1;have c3:=V0.out.c3;have c0:=V0.out.c0;have c4:=V0.out.c4;have fg:=V0.out.fg;have H1:=Hd (HS.out.put_ (j:=1) (u:=.slice A3 (W.se i).sav.length k3) (s':=⟨(W.se i).st,(W.se i).sav,(W.se i).pre,(W.se i).sav,(W.se i).wri⟩) (by decide) fun w' a b c d hk h1 h2 h3 h4=>⟨_,b,c,d,rfl,V0.out.o3.keeps hk,h2,h3,h4,HS.out.st64⟩)
 go_wp2_with fail
 refine bodyPost_ret (results_none rfl _ _ _) rfl ⟨rfl,?_,(((HO.out.set_ (.inr rfl) _).set_ (.inr rfl) _).set_ (.inr rfl) _).set_ (.inr rfl) _⟩;have h:=H1.out.fin3;rw[put_self W HS.out.hi,put_put]at h;exact h
structure LpAt(w0 w wx:World)(bv bw g cap i:Nat)(W:Wo)(A4:Option Addr)(m k4 k:Nat):Prop where
 sv:SvAt w0 wx bv bw g cap i ⟨plusAll W.rows ((W.se i).wri.take k),W.ses⟩
 only:Only2 bw g w wx
 wri:OPL wx w0.heap.size (.slice A4 m k4) (W.se i).wri
theorem LpAt.keep{w0 w wx wy:World}{bv bw g cap i m k4 k:Nat}{W:Wo}{A4:Option Addr}(h:LpAt w0 w wx bv bw g cap i W A4 m k4 k)(hb:Below wx.heap.size wx wy):LpAt w0 w wy bv bw g cap i W A4 m k4 k:=
 ⟨h.sv.keep hb,h.only.below hb,h.wri.keeps (.of_below hb)⟩
theorem end_yes(w0 w:World)(bv bw g cap i:Nat)(W:Wo)(hS:SvAt w0 w bv bw g cap i W)(hG:Good W):
  Calls Tryz.prog 123 #[.pointer (some ⟨bv,0,none⟩),.bool true] w (EndR w0 w bv bw g cap i (endW W i true)):=by
 have hi:=hS.hi;have hfew:=hG.few;have gse:=hG.se hi;have hrl:W.rows.length≤100:=((pairs_iff _ _ _).1 hG.rows).2.2;have hwl:(W.se i).wri.length≤100:=((pairs_iff _ _ _).1 gse.wri).2.2;have hrs:=hG.rowsS;obtain⟨Ar,cr,A1,k1,A2,k2,A3,k3,A4,k4,V⟩:=hS.view;have HS:=Hd (hS.keep bR.drew);have V0:=Hd (V.keep bR.drew);have HO:=Hd ((Only2.refl bw g w).drew);have HRS:=Hd hrs;have L0:=Hd (LpAt.mk (w0:=w0) (k:=0) (W:=W) (by rw[List.take_zero];exact hS.keep bR.drew) ((Only2.refl bw g w).drew) (V.keep bR.drew).o4)
 obtain⟨n,hn⟩: ∃n,W.ses.length=n:=⟨_,rfl⟩;obtain⟨m,hm⟩: ∃m,(W.se i).wri.length=m:=⟨_,rfl⟩;rw[hn]at V0 hi hfew;rw[hm]at L0 hwl;have HN:=Hd hn;have HM:=Hd hm;have g1:(i:Int)<(n:Int):=by omega
 have g2:(0:Int)≤(i:Int):=by omega
 have c4:=V0.out.c4;rw[hm]at c4;have C4:=Hd c4;clear hS V hn hm hG gse hrs c4;go_enter func123,ntmps123
 go_wp2_with fail
 have s0:=V0.out.s0;have s1:=V0.out.s1;have b1:=V0.out.b1;refine region_sg [] ?_;refine anyB_sg [0,1,2,3,4,5,6,7,8,9,10,11,12] 0 ?_;go_wp2_with fail
 refine sg_o ?_;refine anyB_dn ?_;clear s0 s1 b1;generalize w.drew=x at HS V0 HO L0 C4⊢;have c4:=C4.out;go_wp2_with fail
 go_loopw [25] (fun q wx=>∃k:Nat,k≤m∧q= .int .i64 k∧LpAt w0 w wx bv bw g cap i W A4 m k4 k) (fun q _=>m-(intOf q).toNat)
 case atStart=>exact⟨0,Nat.zero_le _,rfl,L0.out⟩
 case round=>
  obtain⟨k,hk,rfl,hL⟩:=hrel;clear c4;by_cases hlt:k<m
  ·have hkl:k<(W.se i).wri.length:=by rw[HM.out];exact hlt
   obtain⟨A5,c5,e5,_,hr5,hf5⟩:=hL.wri.pl;injection e5 with e6 e7 e8;subst e6;obtain⟨ad,hA,hBl,x1,x2⟩:=pair_at hr5 hkl;subst hA;obtain⟨p,hp⟩: ∃p,(W.se i).wri[k]=p:=⟨_,rfl⟩;rw[hp]at x1 x2;have hpf:=hf5.2 p (by rw[←hp];exact List.getElem_mem hkl)
   have HPF:=Hd hpf;have htk:(W.se i).wri.take (k+1)=(W.se i).wri.take k++[p]:=by rw[List.take_succ_eq_append_getElem hkl,hp]
   have hR:=plusAll_sorted HRS.out ((W.se i).wri.take k);have hRl:(plusAll W.rows ((W.se i).wri.take k)).length≤1000:=by have:=hR.2;rw[List.length_take]at this;omega
   have HR:=Hd hR.1;have HTK:=Hd (show plusAll W.rows ((W.se i).wri.take (k+1))=plusP (plusAll W.rows ((W.se i).wri.take k)) p.k p.v by rw[htk,plusAll_snoc])
   obtain⟨R,hRe⟩: ∃R,plusAll W.rows ((W.se i).wri.take k)=R:=⟨_,rfl⟩;rw[hRe]at HR HTK hRl;have hL2:=hL.keep (boxed _ (.cells #[.string p.k,.string p.v] 60));obtain⟨Br,er,B1,j1,B2,j2,B3,j3,B4,j4,V1⟩:=hL2.sv.view;have PB:=Hd (Blk.new wr 60 #[.string p.k,.string p.v]);have L1:=Hd hL2;have V2:=Hd V1;have hL2S:=hL2.sv;rw[hRe]at V2;have g3:(k:Int)<(m:Int):=by omega
   have g4:(0:Int)≤(k:Int):=by omega
   clear hL hr5 hf5 hp hpf htk hR hRe hL2 V1 hL2S hkl hBl e8 e7;go_upto_region 5 with fail
   obtain⟨pb,hpb⟩: ∃pb,wr.heap.size=pb:=⟨_,rfl⟩;rw[hpb]at PB⊢;clear hpb;generalize wr.alloc (.cells #[.string p.k,.string p.v] 60)=y0 at L1 V2 PB⊢;have s0:=(V2.out.keep bR.drew).s0;have b0:=(V2.out.keep bR.drew).b0;have p0:=PB.out.drew.cell_ 0 _ rfl;have p1:=PB.out.drew.cell_ 1 _ rfl;clear x1 x2;refine region_sg [18] ?_;refine anyB_sg [0,1,2,3,4,5,6,7,8,9,10,11,12,13,14] 4 ?_;go_wp2_with fail
   refine sg_o ?_;refine anyB_on 15 fun K hK=>?_;go_simp;have L2:=Hd (L1.out.keep bR.drew);have V3:=Hd (V2.out.keep bR.drew);clear s0 b0 p0 p1;generalize y0.drew=y1 at L2 V3 hK⊢;clear L1 V2 PB;refine(with_any _ _ R p.k p.v V3.out.o0.pl HR.out (by omega) HPF.out.1 HPF.out.2).mono ?_
   rintro e y2 ⟨u9,rfl,o9,b9⟩;refine thK hK b9 ?_;clear hK K;have L3:=Hd (L2.out.keep b9);have V4:=Hd (V3.out.keep b9);have O9:=Hd (o9.base L2.out.sv.bel.size);obtain⟨A9,k9,rfl⟩:=o9.form;obtain⟨m9,hm9⟩: ∃m9,(plusP R p.k p.v).length=m9:=⟨_,rfl⟩;rw[hm9]at O9⊢;clear o9 b9 hm9 L2 V3;refine anyB_sg [16,17] 1 ?_;go_wp2_with fail
   refine sg_o ?_;have b0:=V4.out.b0;have fb:=V4.out.fb;refine anyB_on 18 fun K hK=>?_;go_simp;have L4:Hid (LpAt w0 w (y2.setCell ⟨bw,0,none⟩ (.slice A9 m9 k9)) bv bw g cap i W (some ad) m k4 (k+1)):=by
    obtain⟨r,h1,_⟩:=L3.out.sv.box;have kp:=Keeps.set_ (t':=39) (t:=60) (p:=⟨bw,0,none⟩) h1 (by decide) (.slice A9 m9 k9)
    refine Hd ⟨?_,L3.out.only.set_ (.inl rfl) _,L3.out.wri.keeps kp⟩;rw[HTK.out];exact L3.out.sv.rows_new bR (O9.out.keeps kp)
   refine lateK hK ?_;clear hK K;refine anyB_dn ?_;clear b0 fb;go_wp2_with fail
   go_roundw
   case rel=>exact⟨k+1,by omega,by go_num,L4.out⟩
   case measure=>simp[intOf];omega
  ·obtain rfl:k=m:=by omega
   have e0:(W.se i).wri.take k=(W.se i).wri:=List.take_of_length_le (by rw[HM.out];exact Nat.le_refl _)
   have hsv:=hL.sv;rw[e0]at hsv;have ho:=hL.only;obtain⟨Br,er,B1,j1,B2,j2,B3,j3,B4,j4,V1⟩:=hsv.view;have c0:=V1.c0;have c3:=V1.c3;have c4:=V1.c4;have fg:=V1.fg;have HF:=Hd hsv.fin3;have HO2:=Hd ho;clear hL hsv ho V1 e0;go_wp2_with fail
   refine bodyPost_ret (results_none rfl _ _ _) rfl ⟨rfl,HF.out,((HO2.out.set_ (.inr rfl) _).set_ (.inr rfl) _).set_ (.inr rfl) _⟩
theorem trans_any(w0 w:World)(bv bw g cap i:Nat)(W:Wo)(k:Int)(hS:SvAt w0 w bv bw g cap i W)(hG:Good W)(hk:k=1∨k=2∨k=3):
  Calls Tryz.prog 95 #[.pointer (some ⟨bv,0,none⟩),.int .i64 k] w (SvR w0 w bv bw g cap i (transW W i k)):=by
 have HG:=Hd hG;have hfew:=hG.few;have hi:=hS.hi;have D0:=Hd (Mth.start hS);obtain⟨Ar,cr,A1,k1,A2,k2,A3,k3,A4,k4,V⟩:=hS.view;have V0:=Hd (V.keep (boxed w (.cells #[.int .i64 0,.string ⟨#[]⟩,.int .i64 0] 46)));obtain⟨n,hn⟩: ∃n,W.ses.length=n:=⟨_,rfl⟩;rw[hn]at V0 hi hfew;have HN:=Hd hn;obtain⟨b,hb⟩: ∃b,w.heap.size=b:=⟨_,rfl⟩;rw[hb]at D0;have g1:(i:Int)<(n:Int):=by omega
 have g2:(0:Int)≤(i:Int):=by omega
 clear hG hS V hn;go_enter func95,ntmps95
 go_wp2_with fail
 generalize w.alloc (.cells #[.int .i64 0,.string ⟨#[]⟩,.int .i64 0] 46 (0,0))=x0 at D0 V0⊢;clear hb;have s0:=(V0.out.keep bR.drew).s0;have s1:=(V0.out.keep bR.drew).s1;have b1:=(V0.out.keep bR.drew).b1;refine region_sg [] ?_;refine anyB_sg [0,1,2,3,4,5,6,7,8,9,10,11,12] 0 ?_;go_wp2_with fail
 refine sg_o ?_;refine anyB_dn ?_;have D1:=Hd (D0.out.keep bR.drew);have V1:=Hd (V0.out.keep bR.drew);clear s0 s1 b1;generalize x0.drew=x1 at D1 V1⊢;clear D0 V0;have c0:=V1.out.c0;by_cases hk1:k=1
 ·subst hk1;by_cases h0:(W.se i).st=0
  ·have HRR:=Hd (show transW W i 1=(W.put i ⟨1,(W.se i).set,(W.se i).pre,(W.se i).set,(W.se i).wri⟩,okA)by unfold transW;rw[if_pos ⟨rfl,h0⟩])
   have g3:((W.se i).st==0)=true:=by simpa using h0
   have c1:=V1.out.c1;clear h0 hk;go_wp2_with fail
   refine(clone_own _ w0.heap.size _ (W.se i).set V1.out.o1.pl D1.out.sv.bel.size).mono ?_;rintro e x4 ⟨u4,rfl,o4,b4⟩;have D4:=Hd (D1.out.keep b4);have V4:=Hd (V1.out.keep b4);obtain⟨A8,k8,rfl⟩:=o4.form;have O4:=Hd o4;have c0':=V4.out.c0;have c3':=V4.out.c3;have fg:=V4.out.fg;have D5:=Hd (D4.out.begin_ O4.out);have z0:=D4.out.res.cell_ 0 _ rfl;have z1:=D4.out.res.cell_ 1 _ rfl;have z2:=D4.out.res.cell_ 2 _ rfl;have fz:=D4.out.res.frozen;have ng:=D4.out.ng;clear b4 c0 c1 o4;go_wp2_with fail
   have RB:=(((D5.out.res).set_ 0 (.int .i64 1)).set_ 1 (.string ⟨#[]⟩)).set_ 2 (.int .i64 0);have t0:=RB.cell_ 0 _ rfl;have t1:=RB.cell_ 1 _ rfl;have t2:=RB.cell_ 2 _ rfl;clear z0 z1 z2 fz;refine bodyPost_ret (v:=.agg #[.int .i64 1,.string ⟨#[]⟩,.int .i64 0]) (by simp[results,results95,go_sem,t0,t1,t2]) rfl ?_
   rw[HRR.out];exact D5.out.fin (_,okA) rfl _ _ _ _ rfl
  ·have g3:((W.se i).st==0)=false:=by simpa using h0
   have HRR:=Hd (show transW W i 1=(W,noA tBegun)by unfold transW;rw[if_neg (fun h=>h0 h.2),if_pos rfl])
   clear hk;go_wp2_with fail
   refine(failed_any _ _).mono ?_;rintro e x4 ⟨rfl,b4⟩;have D4:=Hd (D1.out.keep b4);have z0:=D4.out.res.cell_ 0 _ rfl;have z1:=D4.out.res.cell_ 1 _ rfl;have z2:=D4.out.res.cell_ 2 _ rfl;have fz:=D4.out.res.frozen;clear b4 c0;go_wp2_with fail
   have RB:=(((D4.out.res).set_ 0 (.int .i64 4)).set_ 1 (.string ⟨#[98,101,103,117,110,32,97,108,114,101,97,100,121]⟩)).set_ 2 (.int .i64 0);have t0:=RB.cell_ 0 _ rfl;have t1:=RB.cell_ 1 _ rfl;have t2:=RB.cell_ 2 _ rfl;clear z0 z1 z2 fz;refine bodyPost_ret (v:=.agg #[.int .i64 4,.string ⟨#[98,101,103,117,110,32,97,108,114,101,97,100,121]⟩,.int .i64 0]) (by simp[results,results95,go_sem,t0,t1,t2]) rfl ?_
   rw[HRR.out];exact D4.out.fin (W,noA tBegun) rfl _ _ _ _ rfl
 have q1:(k==1)=false:=by simpa using hk1
 by_cases h0:(W.se i).st=0
 ·have g3:((W.se i).st==0)=true:=by simpa using h0
  have HRR:=Hd (show transW W i k=(W,noA tNoTx)by unfold transW;rw[if_neg (fun h=>hk1 h.1),if_neg hk1,if_pos h0])
  clear hk;go_wp2_with fail
  refine(failed_any _ _).mono ?_;rintro e x4 ⟨rfl,b4⟩;have D4:=Hd (D1.out.keep b4);have z0:=D4.out.res.cell_ 0 _ rfl;have z1:=D4.out.res.cell_ 1 _ rfl;have z2:=D4.out.res.cell_ 2 _ rfl;have fz:=D4.out.res.frozen;clear b4 c0;go_wp2_with fail
  have RB:=(((D4.out.res).set_ 0 (.int .i64 4)).set_ 1 (.string ⟨#[110,111,32,116,114,97,110,115,97,99,116,105,111,110]⟩)).set_ 2 (.int .i64 0);have t0:=RB.cell_ 0 _ rfl;have t1:=RB.cell_ 1 _ rfl;have t2:=RB.cell_ 2 _ rfl;clear z0 z1 z2 fz;refine bodyPost_ret (v:=.agg #[.int .i64 4,.string ⟨#[110,111,32,116,114,97,110,115,97,99,116,105,111,110]⟩,.int .i64 0]) (by simp[results,results95,go_sem,t0,t1,t2]) rfl ?_
  rw[HRR.out];exact D4.out.fin (W,noA tNoTx) rfl _ _ _ _ rfl
 have g3:((W.se i).st==0)=false:=by simpa using h0
 by_cases h2:k=2
 ·have q2:(k==2)=true:=by simpa using h2
  by_cases h1:(W.se i).st=1
  ·have g4:((W.se i).st==1)=true:=by simpa using h1
   have HRR:=Hd (show transW W i k=(endW W i true,okA)by unfold transW;rw[if_neg (fun h=>hk1 h.1),if_neg hk1,if_neg h0];simp[h2,h1])
   clear hk;go_wp2_with fail
   refine(end_yes w0 _ bv bw g cap i W D1.out.sv HG.out).mono ?_;rintro e x4 ⟨rfl,sv4,o4⟩;have D4:=Hd (D1.out.step sv4 o4);have z0:=D4.out.res.cell_ 0 _ rfl;have z1:=D4.out.res.cell_ 1 _ rfl;have z2:=D4.out.res.cell_ 2 _ rfl;have fz:=D4.out.res.frozen;clear sv4 o4 c0;go_wp2_with fail
   have RB:=(((D4.out.res).set_ 0 (.int .i64 1)).set_ 1 (.string ⟨#[]⟩)).set_ 2 (.int .i64 0);have t0:=RB.cell_ 0 _ rfl;have t1:=RB.cell_ 1 _ rfl;have t2:=RB.cell_ 2 _ rfl;clear z0 z1 z2 fz;refine bodyPost_ret (v:=.agg #[.int .i64 1,.string ⟨#[]⟩,.int .i64 0]) (by simp[results,results95,go_sem,t0,t1,t2]) rfl ?_
   rw[HRR.out];exact D4.out.fin (_,okA) rfl _ _ _ _ rfl
  ·have g4:((W.se i).st==1)=false:=by simpa using h1
   have HRR:=Hd (show transW W i k=(endW W i false,okA)by unfold transW;rw[if_neg (fun h=>hk1 h.1),if_neg hk1,if_neg h0];simp[h1])
   clear hk;go_wp2_with fail
   refine(end_no w0 _ bv bw g cap i W D1.out.sv HG.out.few).mono ?_;rintro e x4 ⟨rfl,sv4,o4⟩;have D4:=Hd (D1.out.step sv4 o4);have z0:=D4.out.res.cell_ 0 _ rfl;have z1:=D4.out.res.cell_ 1 _ rfl;have z2:=D4.out.res.cell_ 2 _ rfl;have fz:=D4.out.res.frozen;clear sv4 o4 c0;go_wp2_with fail
   have RB:=(((D4.out.res).set_ 0 (.int .i64 1)).set_ 1 (.string ⟨#[]⟩)).set_ 2 (.int .i64 0);have t0:=RB.cell_ 0 _ rfl;have t1:=RB.cell_ 1 _ rfl;have t2:=RB.cell_ 2 _ rfl;clear z0 z1 z2 fz;refine bodyPost_ret (v:=.agg #[.int .i64 1,.string ⟨#[]⟩,.int .i64 0]) (by simp[results,results95,go_sem,t0,t1,t2]) rfl ?_
   rw[HRR.out];exact D4.out.fin (_,okA) rfl _ _ _ _ rfl
 ·have q2:(k==2)=false:=by simpa using h2
  have HRR:=Hd (show transW W i k=(endW W i false,okA)by unfold transW;rw[if_neg (fun h=>hk1 h.1),if_neg hk1,if_neg h0];simp[h2])
  clear hk;go_wp2_with fail
  refine(end_no w0 _ bv bw g cap i W D1.out.sv HG.out.few).mono ?_;rintro e x4 ⟨rfl,sv4,o4⟩;have D4:=Hd (D1.out.step sv4 o4);have z0:=D4.out.res.cell_ 0 _ rfl;have z1:=D4.out.res.cell_ 1 _ rfl;have z2:=D4.out.res.cell_ 2 _ rfl;have fz:=D4.out.res.frozen;clear sv4 o4 c0;go_wp2_with fail
  have RB:=(((D4.out.res).set_ 0 (.int .i64 1)).set_ 1 (.string ⟨#[]⟩)).set_ 2 (.int .i64 0);have t0:=RB.cell_ 0 _ rfl;have t1:=RB.cell_ 1 _ rfl;have t2:=RB.cell_ 2 _ rfl;clear z0 z1 z2 fz;refine bodyPost_ret (v:=.agg #[.int .i64 1,.string ⟨#[]⟩,.int .i64 0]) (by simp[results,results95,go_sem,t0,t1,t2]) rfl ?_
  rw[HRR.out];exact D4.out.fin (_,okA) rfl _ _ _ _ rfl
theorem put_any(w0 w:World)(bv bw g cap i:Nat)(W:Wo)(k v:ByteArray)(hS:SvAt w0 w bv bw g cap i W)(hG:Good W)(hk:k.size≤maxLen)(hv:v.size≤maxLen):
  Calls Tryz.prog 99 #[.pointer (some ⟨bv,0,none⟩),.string k,.string v] w (SvR w0 w bv bw g cap i (putW W i k v)):=by
 have HG:=Hd hG;have HKV:=Hd (And.intro hk hv);have hfew:=hG.few;have hi:=hS.hi;have hsl:=hS.sl (by have:=hG.few;omega)
 have D0:=Hd (Mth.start hS);obtain⟨Ar,cr,A1,k1,A2,k2,A3,k3,A4,k4,V⟩:=hS.view;have V0:=Hd (V.keep (boxed w (.cells #[.int .i64 0,.string ⟨#[]⟩,.int .i64 0] 46)));obtain⟨n,hn⟩: ∃n,W.ses.length=n:=⟨_,rfl⟩;rw[hn]at V0 hi hfew;have HN:=Hd hn;obtain⟨b,hb⟩: ∃b,w.heap.size=b:=⟨_,rfl⟩;rw[hb]at D0;have HB:=Hd hb;have HS:=Hd hS;have g1:(i:Int)<(n:Int):=by omega
 have g2:(0:Int)≤(i:Int):=by omega
 clear hG hk hv hS V hn hsl;go_enter func99,ntmps99
 go_wp2_with fail
 generalize w.alloc (.cells #[.int .i64 0,.string ⟨#[]⟩,.int .i64 0] 46 (0,0))=x0 at D0 V0⊢;clear HB hb;have s0:=(V0.out.keep bR.drew).s0;have s1:=(V0.out.keep bR.drew).s1;have b0:=(V0.out.keep bR.drew).b0;have b1:=(V0.out.keep bR.drew).b1;refine region_sg [] ?_;refine anyB_sg [0,1,2,3,4,5,6,7,8,9,10,11,12] 0 ?_;go_wp2_with fail
 refine sg_o ?_;refine anyB_dn ?_;have D1:=Hd (D0.out.keep bR.drew);have V1:=Hd (V0.out.keep bR.drew);clear s0 s1 b0 b1;generalize x0.drew=x1 at D1 V1⊢;clear D0 V0;go_wp2_with fail
 have s0:=(V1.out.keep bR.drew).s0;have s1:=(V1.out.keep bR.drew).s1;have b0:=(V1.out.keep bR.drew).b0;have b1:=(V1.out.keep bR.drew).b1;refine region_sg [] ?_;refine anyB_sg [0,1,2,3,4,5,6,7,8,9,10] 1 ?_;go_wp2_with fail
 refine sg_o ?_;refine anyB_on 11 fun K hK=>?_;go_simp;have D2:=Hd (D1.out.keep bR.drew);have V2:=Hd (V1.out.keep bR.drew);clear s0 s1 b0 b1;generalize x1.drew=x2 at D2 V2 hK⊢;clear D1 V1;refine(held_any _ _ _ W.ses i k (by have:=D2.out.sv.sl (by rw[HN.out];omega);rw[HN.out]at this;exact this) rfl (by omega)).mono ?_
 rintro e x3 ⟨hd,rfl,hh,b3⟩;refine thK hK b3 ?_;clear hK K;have hhd:hd=heldB W.ses i k:=hh.sorted (fun j=>by
  by_cases hj:j<W.ses.length
  ·exact(HG.out.se hj).wriS
  ·have e:W.ses.getD j Se.new=Se.new:=by rw[List.getD_eq_getElem?_getD,List.getElem?_eq_none (by omega)];rfl
   rw[e];exact List.Pairwise.nil)
 have HH:=Hd hhd;have D3:=Hd (D2.out.keep b3);have V3:=Hd (V2.out.keep b3);clear hh hhd b3 D2 V2;refine anyB_dn ?_;cases hd with
 |true=>
  have HRR:=Hd (show putW W i k v=(W,noA tHeld)by unfold putW;rw[if_pos HH.out.symm])
  go_wp2_with fail
  refine(failed_any _ _).mono ?_;rintro e x4 ⟨rfl,b4⟩;have D4:=Hd (D3.out.keep b4);have z0:=D4.out.res.cell_ 0 _ rfl;have z1:=D4.out.res.cell_ 1 _ rfl;have z2:=D4.out.res.cell_ 2 _ rfl;have fz:=D4.out.res.frozen;clear b4;go_wp2_with fail
  have RB:=(((D4.out.res).set_ 0 (.int .i64 4)).set_ 1 (.string ⟨#[104,101,108,100]⟩)).set_ 2 (.int .i64 0);have t0:=RB.cell_ 0 _ rfl;have t1:=RB.cell_ 1 _ rfl;have t2:=RB.cell_ 2 _ rfl;clear z0 z1 z2 fz;refine bodyPost_ret (v:=.agg #[.int .i64 4,.string ⟨#[104,101,108,100]⟩,.int .i64 0]) (by simp[results,results99,go_sem,t0,t1,t2]) rfl ?_
  rw[HRR.out];exact D4.out.fin (W,noA tHeld) rfl _ _ _ _ rfl
 |false=>
  have s0:=V3.out.s0;have b0:=V3.out.b0;go_wp2_with fail
  refine(find_any _ _ W.rows k V3.out.o0.pl).mono ?_;rintro e x4 ⟨ir,br,rfl,hf4,b4⟩;have HFR:=Hd (hf4.sorted HG.out.rowsS);have D4:=Hd (D3.out.keep b4);have V4:=Hd (V3.out.keep b4);clear hf4 b4 s0 b0 D3 V3;have c4:=V4.out.c4;go_wp2_with fail
  refine(find_any _ _ (W.se i).wri k V4.out.o4.pl).mono ?_;rintro e x5 ⟨iw,bw5,rfl,hf5,b5⟩;have HFW:=Hd (hf5.sorted (HG.out.se (by rw[HN.out];exact hi)).wriS)
  have D5:=Hd (D4.out.keep b5);have V5:=Hd (V4.out.keep b5);clear hf5 b5 c4 D4 V4;obtain⟨F,hF⟩: ∃F,decide (hasK W.rows k=false∧hasK (W.se i).wri k=false∧card (keysW W)=100)=F:=⟨_,rfl⟩;have XF:=Hd hF;clear hF;go_upto_region 6 with fail
  go_cut [73] (fun t wc=>t= .bool F∧Mth w0 w wc bv bw g cap i b W∧Vw wc w0.heap.size bv bw g cap i n W.rows (W.se i) Ar cr A1 k1 A2 k2 A3 k3 A4 k4)
  case first=>
   cases br with
   |true=>
    have HF:=Hd (show F=false by rw[←XF.out,←HFR.out.2];simp)
    go_wp2_with fail
    go_meet;exact⟨by rw[HF.out],D5.out,V5.out⟩
   |false=>
    cases bw5 with
    |true=>
     have HF:=Hd (show F=false by rw[←XF.out,←HFW.out.2];simp)
     go_wp2_with fail
     go_meet;exact⟨by rw[HF.out],D5.out,V5.out⟩
    |false=>
     have HF:=Hd (show F=decide (card (keysW W)=100)by rw[←XF.out,←HFW.out.2,←HFR.out.2];simp)
     have s0:=V5.out.s0;have b0:=V5.out.b0;have b1:=V5.out.b1;go_wp2_with fail
     refine(total_any _ _ _ W (by have:=D5.out.sv.wl (by rw[HN.out];omega) V5.out.o0;rw[HN.out]at this;exact this) (by have:=((pairs_iff _ _ _).1 HG.out.rows).2.2;omega) (by rw[HN.out];omega) (fun t ht=>by obtain⟨j,hj,rfl⟩:=List.getElem_of_mem ht;have:=((pairs_iff _ _ _).1 (HG.out.se hj).wri).2.2;unfold Wo.se at this;rw[getD_at hj]at this;omega)).mono ?_
     rintro e x6 ⟨rfl,b6⟩;have D6:=Hd (D5.out.keep b6);have V6:=Hd (V5.out.keep b6);clear b6 s0 b0 b1;obtain⟨q,hq⟩: ∃q,card (keysW W)=q:=⟨_,rfl⟩;rw[hq]at HF⊢;clear hq;by_cases h100:q=100
     ·have g3:((q:Int)==100)=true:=by simp;omega
      have HF2:=Hd (show F=true by rw[HF.out];simpa using h100)
      clear h100;go_wp2_with fail
      go_meet;exact⟨by rw[HF2.out],D6.out,V6.out⟩
     ·have g3:((q:Int)==100)=false:=by simp;omega
      have HF2:=Hd (show F=false by rw[HF.out];simpa using h100)
      clear h100;go_wp2_with fail
      go_meet;exact⟨by rw[HF2.out],D6.out,V6.out⟩
  case rest=>
   obtain⟨rfl,hD,hV⟩:=hcut;have D7:=Hd hD;have V7:=Hd hV;clear hD hV D5 V5 HFR HFW;cases F with
   |true=>
    have HRR:=Hd (show putW W i k v=(W,noA tFull)by unfold putW;rw[if_neg (by rw[←HH.out];decide),if_pos (of_decide_eq_true XF.out)])
    go_wp2_with fail
    refine(failed_any _ _).mono ?_;rintro e x8 ⟨rfl,b8⟩;have D8:=Hd (D7.out.keep b8);have z0:=D8.out.res.cell_ 0 _ rfl;have z1:=D8.out.res.cell_ 1 _ rfl;have z2:=D8.out.res.cell_ 2 _ rfl;have fz:=D8.out.res.frozen;clear b8;go_wp2_with fail
    have RB:=(((D8.out.res).set_ 0 (.int .i64 4)).set_ 1 (.string ⟨#[102,117,108,108]⟩)).set_ 2 (.int .i64 0);have t0:=RB.cell_ 0 _ rfl;have t1:=RB.cell_ 1 _ rfl;have t2:=RB.cell_ 2 _ rfl;clear z0 z1 z2 fz;refine bodyPost_ret (v:=.agg #[.int .i64 4,.string ⟨#[102,117,108,108]⟩,.int .i64 0]) (by simp[results,results99,go_sem,t0,t1,t2]) rfl ?_
    rw[HRR.out];exact D8.out.fin (W,noA tFull) rfl _ _ _ _ rfl
   |false=>
    have hNF:=of_decide_eq_false XF.out;by_cases hst:(W.se i).st=1
    ·have HRR:=Hd (show putW W i k v=(W.put i ⟨(W.se i).st,(W.se i).set,(W.se i).pre,(W.se i).sav,plusP (W.se i).wri k v⟩,okA)by unfold putW;rw[if_neg (by rw[←HH.out];decide),if_neg hNF,if_pos hst])
     have g3:((W.se i).st==1)=true:=by simpa using hst
     clear hst hNF;have c0:=V7.out.c0;have c4:=V7.out.c4;go_wp2_with fail
     refine(with_any _ _ (W.se i).wri k v V7.out.o4.pl (HG.out.se (by rw[HN.out];exact hi)).wriS (by have:=((pairs_iff _ _ _).1 (HG.out.se (by rw[HN.out];exact hi)).wri).2.2;omega) HKV.out.1 HKV.out.2).mono ?_
     rintro e x8 ⟨u8,rfl,o8,b8⟩;have D8:=Hd (D7.out.keep b8);have V8:=Hd (V7.out.keep b8);have O8:=Hd (o8.base D7.out.sv.bel.size);obtain⟨A8,k8,rfl⟩:=o8.form;obtain⟨m8,hm8⟩: ∃m8,(plusP (W.se i).wri k v).length=m8:=⟨_,rfl⟩;rw[hm8]at O8⊢;clear c0 c4 o8 b8 hm8;have D9:=Hd (D8.out.set_4 O8.out);have z0:=D8.out.res.cell_ 0 _ rfl;have z1:=D8.out.res.cell_ 1 _ rfl;have z2:=D8.out.res.cell_ 2 _ rfl;have fz:=D8.out.res.frozen;have ng:=D8.out.ng;have c4:=V8.out.c4;have fg:=V8.out.fg;go_wp2_with fail
     have RB:=(((D9.out.res).set_ 0 (.int .i64 1)).set_ 1 (.string ⟨#[]⟩)).set_ 2 (.int .i64 0);have t0:=RB.cell_ 0 _ rfl;have t1:=RB.cell_ 1 _ rfl;have t2:=RB.cell_ 2 _ rfl;clear z0 z1 z2 fz;refine bodyPost_ret (v:=.agg #[.int .i64 1,.string ⟨#[]⟩,.int .i64 0]) (by simp[results,results99,go_sem,t0,t1,t2]) rfl ?_
     rw[HRR.out];exact D9.out.fin (_,okA) rfl _ _ _ _ rfl
    ·have HRR:=Hd (show putW W i k v=(⟨plusP W.rows k v,W.ses⟩,okA)by unfold putW;rw[if_neg (by rw[←HH.out];decide),if_neg hNF,if_neg hst])
     have g3:((W.se i).st==1)=false:=by simpa using hst
     clear hst hNF;have c0:=V7.out.c0;go_upto_region 10 with fail
     have s0:=(V7.out.keep bR.drew).s0;have b0:=(V7.out.keep bR.drew).b0;clear c0;refine region_sg [16] ?_;refine anyB_sg [0,1,2,3,4,5,6,7,8,9,10,11,12] 4 ?_;go_wp2_with fail
     refine sg_o ?_;refine anyB_on 13 fun K hK=>?_;go_simp;have D8:=Hd (D7.out.keep bR.drew);have V8:=Hd (V7.out.keep bR.drew);clear s0 b0;generalize World.drew _=x8 at D8 V8 hK⊢;clear D7 V7;refine(with_any _ _ W.rows k v V8.out.o0.pl HG.out.rowsS (by have:=((pairs_iff _ _ _).1 HG.out.rows).2.2;omega) HKV.out.1 HKV.out.2).mono ?_
     rintro e x9 ⟨u9,rfl,o9,b9⟩;refine thK hK b9 ?_;clear hK K;have D9:=Hd (D8.out.keep b9);have V9:=Hd (V8.out.keep b9);have O9:=Hd (o9.base D8.out.sv.bel.size);obtain⟨A9,k9,rfl⟩:=o9.form;obtain⟨m9,hm9⟩: ∃m9,(plusP W.rows k v).length=m9:=⟨_,rfl⟩;rw[hm9]at O9⊢;clear o9 b9 hm9 D8 V8;refine anyB_sg [14,15] 1 ?_;go_wp2_with fail
     refine sg_o ?_;have b0:=V9.out.b0;have fb:=V9.out.fb;refine anyB_on 16 fun K hK=>?_;go_simp;have D10:=Hd (D9.out.set_r O9.out);refine lateK hK ?_;clear hK K;refine anyB_dn ?_;clear b0 fb;have z0:=D10.out.res.cell_ 0 _ rfl;have z1:=D10.out.res.cell_ 1 _ rfl;have z2:=D10.out.res.cell_ 2 _ rfl;have fz:=D10.out.res.frozen;go_wp2_with fail
     have RB:=(((D10.out.res).set_ 0 (.int .i64 1)).set_ 1 (.string ⟨#[]⟩)).set_ 2 (.int .i64 0);have t0:=RB.cell_ 0 _ rfl;have t1:=RB.cell_ 1 _ rfl;have t2:=RB.cell_ 2 _ rfl;clear z0 z1 z2 fz;refine bodyPost_ret (v:=.agg #[.int .i64 1,.string ⟨#[]⟩,.int .i64 0]) (by simp[results,results99,go_sem,t0,t1,t2]) rfl ?_
     rw[HRR.out];exact D10.out.fin (_,okA) rfl _ _ _ _ rfl
end Go.Proofs.YtjbnfigpflambacGreatDoor
