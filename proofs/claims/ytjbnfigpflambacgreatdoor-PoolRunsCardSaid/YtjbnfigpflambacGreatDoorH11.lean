/- say.Read. What a row's list gives at the start of a call. Reference's upTo and wordOf: what each returns. Reference's StmtFault. Reference's StmtOf. Conditions: those of each lemma. -/
import Derived.Test.YtjbnfigpflambacGreatDoorH07
import Derived.Test.YtjbnfigpflambacGreatDoorH10
import Derived.Deep.DeepCutAuto
import Derived.Deep.DeepHandedRow
namespace Go.Proofs.YtjbnfigpflambacGreatDoor
set_option maxRecDepth 100000
set_option maxHeartbeats 16000000
open _root_.Go.Proofs.Tryz
open Go.ChangeShapes Go.WideShapes Go.ChangeAt Go.RowKit
theorem parts_cell(t:ByteArray)(n i:Nat)(hi:i<n):(Lib.cellsOf (parts t) n)[i]? =some (.string (partAt t i)):=by
 unfold Lib.cellsOf partAt;rw[List.getElem?_toArray,List.getElem?_append];by_cases h:i<(parts t).length
 ·rw[if_pos (by simpa using h)]
  simp[List.getD,h]
 ·rw[if_neg (by simpa using h),List.getElem?_replicate,if_pos (by simp;omega)]
  simp[List.getD,Nat.le_of_not_lt h];rfl
theorem split3(t:ByteArray)(w:World)(hT:Tabs w)(ht:t.size≤60):
  Calls Tryz.prog 105 #[.string t,.string ⟨#[32]⟩,.int .i64 3] w fun e w'=>
   ∃n:Nat,e= .returned (.slice (some ⟨w.heap.size,0,none⟩) (parts t).length n)∧(parts t).length≤n∧n≤3∧Below w.heap.size w w'∧w'.heap.size=w.heap.size+1∧
    ∀i,i<n→w'.cell? ⟨w.heap.size,i,none⟩=some (.string (partAt t i)):=by
 obtain⟨m,hm⟩:=hT.maxLen;have hl:=parts_length t;have e1:1≤(⟨#[32]⟩:ByteArray).size:=Nat.le_refl _;refine(Tryz.strings_SplitN t ⟨#[32]⟩ 3 m w (by omega) hm e1 (by omega) (by omega)).mono ?_
 rintro e w' ⟨rfl,rfl⟩;rw[parts_eq];refine⟨min 3 (t.size+1),rfl,by omega,by omega,boxed _ _,by simp,fun i hi=>?_⟩
 exact(cell_of_row _ _ i _ _ (0,0) (heap_alloc_new w _)).trans (parts_cell t _ i hi)
theorem read_long(t:ByteArray)(w:World)(ht:60<t.size)(hm:t.size≤maxLen):
  Calls Tryz.prog 79 #[.string t] w fun e w'=>e= .returned (.tuple #[St.none.v,.int .i64 1])∧Below w.heap.size w w':=by
 unfold maxLen at hm;go_enter func79,ntmps79
 go_wp2_with fail
 exact bodyPost_ret (v:=.tuple #[St.none.v,.int .i64 1]) (by simp[results,results79,go_sem,St.v,St.none]) rfl ⟨rfl,boxed _ _⟩
theorem index_word(x:ByteArray)(w:World)(hT:Tabs w):
  Calls Tryz.prog 106 #[.slice (some ⟨0,1,none⟩) 11 11,.string x] w fun e w'=>e= .returned (.int .i64 (kindOf x-1))∧w'=w:=by
 have h:=Tryz.slices_Index_string 0 1 11 11 wordsL x w (by decide) (by omega) (fun j hj=>hT.words j hj)
 have e:kindOf x-1=Lib.idxOfS (List.take 11 wordsL) x:=by
  show Lib.idxOfS wordsL x+1-1=Lib.idxOfS wordsL x;omega
 rw[e];exact h
theorem index_word_is(x:ByteArray)(K:Int)(w:World)(hK:Hid (kindOf x=K))(hT:Tabs w):
  Calls Tryz.prog 106 #[.slice (some ⟨0,1,none⟩) 11 11,.string x] w fun e w'=>e= .returned (.int .i64 (K-1))∧w=w':=by
 rw[←hK.out];exact(index_word x w hT).mono fun e w' ⟨he,hw⟩=>⟨he,hw.symm⟩
theorem tabs_drew{w:World}(h:Tabs w):Tabs w.drew:=⟨h.words,h.maxLen⟩
theorem part_out{t:ByteArray}{L i:Nat}(hL:(parts t).length=L)(h:L≤i):partAt t i=⟨#[]⟩:=by
 unfold partAt;rw[List.getD,List.getElem?_eq_none (by omega)]
 rfl
structure Mid(w wx:World)(K:Int)(p1 p2:ByteArray):Prop where
 bel:Below w.heap.size w wx
 res:Blk wx w.heap.size 41 #[.int .i64 0,.string ⟨#[]⟩,.string ⟨#[]⟩]
 stm:Blk wx (w.heap.size+2) 41 #[.int .i64 K,.string p1,.string p2]
section
variable {w wx:World}{K:Int}{p1 p2:ByteArray}
theorem Mid.cells(m:Mid w wx K p1 p2):wx.cell? ⟨w.heap.size,0,none⟩=some (.int .i64 0)∧wx.cell? ⟨w.heap.size,1,none⟩=some (.string ⟨#[]⟩)∧wx.cell? ⟨w.heap.size,2,none⟩=some (.string ⟨#[]⟩)∧
  wx.cell? ⟨w.heap.size+2,0,none⟩=some (.int .i64 K)∧wx.cell? ⟨w.heap.size+2,1,none⟩=some (.string p1)∧wx.cell? ⟨w.heap.size+2,2,none⟩=some (.string p2)∧
  (∀i,wx.frozen? ⟨w.heap.size,i,none⟩=false)∧(∀i,wx.frozen? ⟨w.heap.size+2,i,none⟩=false):=
 ⟨m.res.cell 0,m.res.cell 1,m.res.cell 2,m.stm.cell 0,m.stm.cell 1,m.stm.cell 2,m.res.frozen,m.stm.frozen⟩
theorem Mid.set_1(m:Mid w wx K p1 p2)(q:ByteArray):Mid w (wx.setCell ⟨w.heap.size+2,1,none⟩ (.string q)) K q p2:=
 ⟨m.bel.setCell (by show w.heap.size≤w.heap.size+2;omega) _,m.res.far (by show w.heap.size≠w.heap.size+2;omega) _,m.stm.set_ 1 _⟩
theorem Mid.set_2(m:Mid w wx K p1 p2)(q:ByteArray):Mid w (wx.setCell ⟨w.heap.size+2,2,none⟩ (.string q)) K p1 q:=
 ⟨m.bel.setCell (by show w.heap.size≤w.heap.size+2;omega) _,m.res.far (by show w.heap.size≠w.heap.size+2;omega) _,m.stm.set_ 2 _⟩
theorem Mid.keep{w3:World}(m:Mid w wx K p1 p2)(hb:Below wx.heap.size wx w3):Mid w w3 K p1 p2:=
 ⟨below_step m.bel leR hb,m.res.keep hb,m.stm.keep hb⟩
end
theorem read_go{t:ByteArray}{s:St}(ht:t.size≤60)(hk:kindOf (partAt t 0)≠0)(hb:bare t=false)(hr:rawOf t=s):readE t=checkE s:=by
 unfold readE;rw[if_neg (by omega),if_neg hk,hb,hr]
 rfl
theorem read_bare{t:ByteArray}(ht:t.size≤60)(hk:kindOf (partAt t 0)≠0)(hb:bare t=true):readE t=4:=by
 unfold readE;rw[if_neg (by omega),if_neg hk,hb]
 rfl
theorem read_1(t:ByteArray)(w:World)(ht:t.size≤60)(hT:Tabs w)(hsub:kindOf (partAt t 0)=11→ReadOk 79 (partAt t 2)):
  Calls Tryz.prog 79 #[.string t] w fun e w'=>e= .returned (.tuple #[(readS t).v,.int .i64 (readE t)])∧Below w.heap.size w w':=by
 have HT:=Hd hT;clear hT;obtain⟨L,hL⟩: ∃L,(parts t).length=L:=⟨_,rfl⟩;obtain⟨l1,l2,l3⟩:=parts_length t;rw[hL]at l1 l2 l3;obtain⟨k1,k2⟩:=kindOf_bd (partAt t 0);obtain⟨K,hK⟩: ∃K,kindOf (partAt t 0)=K:=⟨_,rfl⟩;rw[hK]at k1 k2;have LL:=Hd hL;have KK:=Hd hK;clear hL hK;go_enter func79,ntmps79
 go_wp2_with fail
 refine(split3 t _ (HT.out.alloc _) ht).mono ?_;rintro e w1 ⟨n,rfl,hn1,hn2,hb1,hz,hc⟩;rw[LL.out]at hn1⊢;have hT1:=(HT.out.alloc _).below hb1;have hZ:w1.heap.size=w.heap.size+2:=by rw[hz];simp
 have hx:w1.heap[w.heap.size]? =some (.cells #[.int .i64 0,.string ⟨#[]⟩,.string ⟨#[]⟩] 41 (0,0)):=(hb1.block _ (by simp)).trans (heap_alloc_new w _)
 have hb:=below_of_alloc leR hb1;have ez: ∀o:Obj,(w.alloc o).heap.size=w.heap.size+1:=fun o=>by simp
 rw[ez]at hc⊢;clear ez;go_wp2_with fail
 go_cut [5] (fun c wx=>c= .pointer (some ⟨w.heap.size+2,0,none⟩)∧Below w.heap.size w wx∧(∀i,i<n→wx.cell? ⟨w.heap.size+1,i,none⟩=some (.string (partAt t i)))∧
  wx.heap.size=w.heap.size+3∧wx.heap[w.heap.size]? =some (.cells #[.int .i64 0,.string ⟨#[]⟩,.string ⟨#[]⟩] 41 (0,0))∧
  wx.heap[w.heap.size+2]? =some (.cells #[.int .i64 K,.string ⟨#[]⟩,.string ⟨#[]⟩] 41 (0,0)))
 case first=>
  have hc0:w1.cell? ⟨w.heap.size+1,0,none⟩=some (.string (partAt t 0)):=hc 0 (by omega)
  have hl0:0<L:=by omega
  have hl1:(0:Int)<(L:Int):=by omega
  have ew:IntKind.i64.wrap K=K:=IntWalk.i64_in _ (by omega)
  have hT2:=Hd hT1;have HC:=Hd hc;have HZ:=Hd hZ;have HX:=Hd hx;have HB:=Hd hb;clear hc hz hx hb1 hT1 hb hZ;have hne:=World.new_ne w1 _ hc0;go_region_held3 (fun w'=>w'.cell? ⟨w.heap.size+1,0,none⟩=some (.string (partAt t 0))) (go_keep)
   (first|(go_at_call 106;refine(index_word_is _ K _ KK (by repeat (first|exact hT2.out|apply tabs_drew|apply Tabs.alloc))).mono ?_;rintro e w' ⟨rfl,rfl⟩))
  all_goals
   go_wp2_with fail
   go_meet;refine⟨by rw[HZ.out],(HB.out.alloc HB.out.size _).drew,fun i hi=>?_,?_,?_,?_⟩
   ·exact(World.cell?_alloc_lt w1 _ _ (by rw[HZ.out];show w.heap.size+1<_;omega)).trans (HC.out i hi)
   ·show(w1.alloc _).heap.size=_;simp[HZ.out]
   ·exact(Below.heap_alloc w1 _ _ (by rw[HZ.out];omega)).trans HX.out
   ·have h:=heap_alloc_new w1 (.cells #[.int .i64 K,.string ⟨#[]⟩,.string ⟨#[]⟩] 41);rw[HZ.out]at h;exact h
 case rest=>
  obtain⟨rfl,hbc,hcc,hzc,hr,hs⟩:=hcut;have M:Mid w wc K ⟨#[]⟩ ⟨#[]⟩:=⟨hbc,hr,hs⟩;have HT1:=Hd hT1;clear hc hz hx hb1 hT1 hb hZ;obtain⟨r0,r1,r2,s0,s1,s2,fr,fs⟩:=M.cells;clear hr hs;by_cases hK0:K=0
  ·have hb0:(K==0)=true:=by simp[hK0]
   have e1:readE t=3:=by unfold readE;rw[if_neg (by omega),if_pos (by rw[KK.out];exact hK0)]
   have e2:readS t=St.none:=by unfold readS;rw[e1];rfl
   have E1:=Hd e1;have E2:=Hd e2;have HM:=Hd M;clear e1 e2 hK0 M;go_wp2_with fail
   refine bodyPost_ret (v:=.tuple #[St.none.v,.int .i64 3]) ?_ rfl ⟨by rw[E1.out,E2.out],?_⟩
   ·simp[results,results79,go_sem,St.v,St.none,r0,r1,r2]
   ·exact((HM.out.bel.setCell leR _).setCell leR _).setCell leR _
  ·have hb0:(K==0)=false:=by simp[hK0]
   have hKK:kindOf (partAt t 0)≠0:=by rw[KK.out];exact hK0
   obtain⟨p1,hp1⟩: ∃p,partAt t 1=p:=⟨_,rfl⟩;obtain⟨p2,hp2⟩: ∃p,partAt t 2=p:=⟨_,rfl⟩;have q1:L≤1→p1=⟨#[]⟩:=fun h=>by rw[←hp1];exact part_out LL.out h
   have q2:L≤2→p2=⟨#[]⟩:=fun h=>by rw[←hp2];exact part_out LL.out h
   have hraw:rawOf t=⟨K,p1,p2⟩:=by unfold rawOf;rw[KK.out,hp1,hp2]
   have hbare:bare t=((decide (1<L)&&isE p1)||(decide (2<L)&&isE p2)):=by unfold bare;rw[LL.out,hp1,hp2]
   have c1:1<n→wc.cell? ⟨w.heap.size+1,1,none⟩=some (.string p1):=fun h=>by rw[←hp1];exact hcc 1 h
   have c2:2<n→wc.cell? ⟨w.heap.size+1,2,none⟩=some (.string p2):=fun h=>by rw[←hp2];exact hcc 2 h
   have hps:p1.size≤maxLen∧p2.size≤maxLen:=by
    have h1:=part_size t 1;have h2:=part_size t 2;rw[hp1]at h1;rw[hp2]at h2;unfold maxLen;omega
   have hck:K=11→ReadOk 79 p2:=fun h=>by
    rw[←hp2];exact hsub (by rw[KK.out];exact h)
   have HR:=Hd hraw;have HBR:=Hd hbare;have HKK:=Hd hKK;have HPS:=Hd hps;have HCK:=Hd hck;have HM:=Hd M;clear hraw hbare hp1 hp2 hKK hcc hK0 hps hck M;have hL3:L=1∨L=2∨L=3:=by omega
   rcases hL3 with rfl|rfl|rfl
   ·obtain rfl:p1=⟨#[]⟩:=q1 (by omega)
    obtain rfl:p2=⟨#[]⟩:=q2 (by omega)
    clear q1 q2;have hread:readE t=checkE ⟨K,⟨#[]⟩,⟨#[]⟩⟩:=read_go ht HKK.out (by rw[HBR.out];rfl) HR.out
    have HRD:=Hd hread;clear hread;go_wp2_with fail
    have MM:=Hd HM.out;clear r0 r1 r2 s0 s1 s2 fr fs;refine(check_any K _ _ _ (HT.out.below MM.out.1) HPS.out.1 HPS.out.2 HCK.out).mono ?_;rintro e w3 ⟨rfl,hb3⟩;have N3:=MM.out.keep hb3;obtain⟨r0,r1,r2,s0,s1,s2,fr,fs⟩:=N3.cells;have HN:=Hd N3;clear N3 hb3 MM;rw[←HRD.out];by_cases he:readE t=0
    ·have hb0:(readE t !=0)=false:=by simp[he]
     have HE:=Hd he;clear he;go_wp2_with fail
     refine bodyPost_ret (v:=.tuple #[(rawOf t).v,.int .i64 0]) ?_ rfl ⟨by rw[HE.out];unfold readS;rw[if_pos HE.out],?_⟩
     ·rw[HR.out];simp[results,results79,go_sem,St.v,r0,r1,r2]
     ·exact((HN.out.bel.setCell leR _).setCell leR _).setCell leR _
    ·have hb0:(readE t !=0)=true:=by simp[he]
     have HE:=Hd he;clear he;go_wp2_with fail
     refine bodyPost_ret (v:=.tuple #[St.none.v,.int .i64 (readE t)]) ?_ rfl ⟨by unfold readS;rw[if_neg HE.out],?_⟩
     ·simp[results,results79,go_sem,St.v,St.none,r0,r1,r2]
     ·exact((HN.out.bel.setCell leR _).setCell leR _).setCell leR _
   ·obtain rfl:p2=⟨#[]⟩:=q2 (by omega)
    have d1:=c1 (by omega)
    clear q1 q2 c1 c2;cases he1:p1.toList.isEmpty with
    |true=>
     have f1:=he1;simp only[List.isEmpty_iff]at f1;have hread:readE t=4:=read_bare ht HKK.out (by rw[HBR.out];simp[isE,he1])
     have HRD:=Hd hread;clear hread;go_wp2_with fail
     have MM:=Hd (HM.out.set_1 p1);refine bodyPost_ret (v:=.tuple #[St.none.v,.int .i64 4]) ?_ rfl ⟨by unfold readS;rw[HRD.out];rfl,?_⟩
     ·simp[results,results79,go_sem,St.v,St.none,r0,r1,r2]
     ·exact((MM.out.bel.setCell leR _).setCell leR _).setCell leR _
    |false=>
     have f1:=he1;simp only[List.isEmpty_eq_false_iff]at f1;have hread:readE t=checkE ⟨K,p1,⟨#[]⟩⟩:=read_go ht HKK.out (by rw[HBR.out];simp[isE,he1]) HR.out
     have HRD:=Hd hread;clear hread;go_wp2_with fail
     have MM:=Hd (HM.out.set_1 p1);clear r0 r1 r2 s0 s1 s2 fr fs;refine(check_any K _ _ _ (HT.out.below MM.out.1) HPS.out.1 HPS.out.2 HCK.out).mono ?_;rintro e w3 ⟨rfl,hb3⟩;have N3:=MM.out.keep hb3;obtain⟨r0,r1,r2,s0,s1,s2,fr,fs⟩:=N3.cells;have HN:=Hd N3;clear N3 hb3 MM;rw[←HRD.out];by_cases he:readE t=0
     ·have hb0:(readE t !=0)=false:=by simp[he]
      have HE:=Hd he;clear he;go_wp2_with fail
      refine bodyPost_ret (v:=.tuple #[(rawOf t).v,.int .i64 0]) ?_ rfl ⟨by rw[HE.out];unfold readS;rw[if_pos HE.out],?_⟩
      ·rw[HR.out];simp[results,results79,go_sem,St.v,r0,r1,r2]
      ·exact((HN.out.bel.setCell leR _).setCell leR _).setCell leR _
     ·have hb0:(readE t !=0)=true:=by simp[he]
      have HE:=Hd he;clear he;go_wp2_with fail
      refine bodyPost_ret (v:=.tuple #[St.none.v,.int .i64 (readE t)]) ?_ rfl ⟨by unfold readS;rw[if_neg HE.out],?_⟩
      ·simp[results,results79,go_sem,St.v,St.none,r0,r1,r2]
      ·exact((HN.out.bel.setCell leR _).setCell leR _).setCell leR _
   ·have d1:=c1 (by omega)
    have d2:=c2 (by omega)
    clear q1 q2 c1 c2;cases he1:p1.toList.isEmpty with
    |true=>
     have f1:=he1;simp only[List.isEmpty_iff]at f1;have hread:readE t=4:=read_bare ht HKK.out (by rw[HBR.out];simp[isE,he1])
     have HRD:=Hd hread;clear hread;go_wp2_with fail
     have MM:=Hd ((HM.out.set_1 p1).set_2 p2);refine bodyPost_ret (v:=.tuple #[St.none.v,.int .i64 4]) ?_ rfl ⟨by unfold readS;rw[HRD.out];rfl,?_⟩
     ·simp[results,results79,go_sem,St.v,St.none,r0,r1,r2]
     ·exact((MM.out.bel.setCell leR _).setCell leR _).setCell leR _
    |false=>
     have f1:=he1;simp only[List.isEmpty_eq_false_iff]at f1;cases he2:p2.toList.isEmpty with
     |true=>
      have f2:=he2;simp only[List.isEmpty_iff]at f2;have hread:readE t=4:=read_bare ht HKK.out (by rw[HBR.out];simp[isE,he2])
      have HRD:=Hd hread;clear hread;go_wp2_with fail
      have MM:=Hd ((HM.out.set_1 p1).set_2 p2);refine bodyPost_ret (v:=.tuple #[St.none.v,.int .i64 4]) ?_ rfl ⟨by unfold readS;rw[HRD.out];rfl,?_⟩
      ·simp[results,results79,go_sem,St.v,St.none,r0,r1,r2]
      ·exact((MM.out.bel.setCell leR _).setCell leR _).setCell leR _
     |false=>
      have f2:=he2;simp only[List.isEmpty_eq_false_iff]at f2;have hread:readE t=checkE ⟨K,p1,p2⟩:=read_go ht HKK.out (by rw[HBR.out];simp[isE,he1,he2]) HR.out
      have HRD:=Hd hread;clear hread;go_wp2_with fail
      have MM:=Hd ((HM.out.set_1 p1).set_2 p2);clear r0 r1 r2 s0 s1 s2 fr fs;refine(check_any K _ _ _ (HT.out.below MM.out.1) HPS.out.1 HPS.out.2 HCK.out).mono ?_;rintro e w3 ⟨rfl,hb3⟩;have N3:=MM.out.keep hb3;obtain⟨r0,r1,r2,s0,s1,s2,fr,fs⟩:=N3.cells;have HN:=Hd N3;clear N3 hb3 MM;rw[←HRD.out];by_cases he:readE t=0
      ·have hb0:(readE t !=0)=false:=by simp[he]
       have HE:=Hd he;clear he;go_wp2_with fail
       refine bodyPost_ret (v:=.tuple #[(rawOf t).v,.int .i64 0]) ?_ rfl ⟨by rw[HE.out];unfold readS;rw[if_pos HE.out],?_⟩
       ·rw[HR.out];simp[results,results79,go_sem,St.v,r0,r1,r2]
       ·exact((HN.out.bel.setCell leR _).setCell leR _).setCell leR _
      ·have hb0:(readE t !=0)=true:=by simp[he]
       have HE:=Hd he;clear he;go_wp2_with fail
       refine bodyPost_ret (v:=.tuple #[St.none.v,.int .i64 (readE t)]) ?_ rfl ⟨by unfold readS;rw[if_neg HE.out],?_⟩
       ·simp[results,results79,go_sem,St.v,St.none,r0,r1,r2]
       ·exact((HN.out.bel.setCell leR _).setCell leR _).setCell leR _
theorem read_small: ∀(n:Nat) (t:ByteArray),t.size≤n→t.size≤60→ReadOk 79 t
 |0,t,h,h60=>fun w hT=>read_1 t w h60 hT fun hk=>absurd (part_lt hk) (by omega)
 |n+1,t,h,h60=>fun w hT=>read_1 t w h60 hT fun hk=>read_small n _ (by have:=part_lt hk;omega) (by have:=part_lt hk;omega)
theorem read_any(t:ByteArray)(hm:t.size≤maxLen):ReadOk 79 t:=by
 by_cases h:60<t.size
 ·intro w _;have e:readE t=1:=by unfold readE;rw[if_pos h]
  unfold readS;rw[e];exact read_long t w h hm
 ·exact read_small t.size t leR (by omega)
theorem check_all(s:St)(w:World)(hT:Tabs w)(hk:s.key.size≤maxLen)(hv:s.val.size≤maxLen):
  Calls Tryz.prog 63 #[s.v] w fun e w'=>e= .returned (.int .i64 (checkE s))∧Below w.heap.size w w':=
 check_any s.k s.key s.val w hT hk hv fun _=>read_any s.val hv
theorem cells_of_strs{H:Type}{enc:TypeId × Value→H}{P:Program}{w:World}{base:Nat}{sp:Nat→Bool}{held:Bool}{fuel:Nat}{t e:TypeId}{n:Nat}{cs:List Value}{zs:List (List UInt8)}{p:List MemPlace}
  (ht:P.underlying t=some (.array n e)) (he:P.underlying e=some .string) (hce:P.cellsOf e=1) (hct:P.cellsOf t=n)
  (h:DataW.trod enc P w base sp held fuel t cs=some (.agg (zs.map fun z=>(DataW.lit (Lit.string z):DataW H)),p)): ∀(i:Nat) (z:List UInt8),zs[i]? =some z→cs[i]? =some (Value.string ⟨z.toArray⟩):=by
 cases fuel with
 |zero=>simp[DataW.trod]at h
 |succ fuel=>
  simp only[DataW.trod,ht,hce,hct,Nat.mul_one]at h;split at h
  ·rename_i hl;obtain⟨xs,hm,hx⟩:=Option.map_eq_some_iff.1 h;have hxs:xs.map (·.1)=zs.map fun z=>(DataW.lit (.string z):DataW H):=by
    have:=congrArg Prod.fst hx;simpa using this
   have hxl:xs.length=n:=by simpa using Lib.mapM_length hm
   have hzl:zs.length=n:=by
    have:=congrArg List.length hxs;simp at this;omega
   intro i z hz;have hi:i<n:=by rw[←hzl];exact(List.getElem?_eq_some_iff.1 hz).1
   obtain⟨b,hb,hf⟩:=Lib.mapM_at hm i i (by simp[hi])
   obtain⟨s,hc,rfl,_⟩:=DataW.trod_string he hf;have h1:cs[i]? =some (.string s):=by
    have:=congrArg (·[0]?) hc;simpa[List.getElem?_take,List.getElem?_drop]using this
   have h2:(xs.map (·.1))[i]? =some (DataW.lit (.string s.data.toList):DataW H):=by simp[hb]
   rw[hxs]at h2;simp only[List.getElem?_map,hz,Option.map_some,Option.some.injEq,DataW.lit.injEq,Lit.string.injEq]at h2;rw[h1,h2]
  ·cases h
theorem typeWords:(Tryz.prog.globals[0]?).map (·.type)=some 150:=by kernel_rfl
theorem cellsWords:Tryz.prog.cellsOf 150=12:=by kernel_rfl
theorem cellsString:Tryz.prog.cellsOf 9=1:=by kernel_rfl
def words12:List (List UInt8):=[]::wordsL.map fun w=>w.data.toList
theorem words_of{W:World}{d0:String × DataW Unit}{rest:List (String × DataW Unit)}(h:laidMet Tryz.prog (d0::("tillerman/say.words",.agg (words12.map fun z=>DataW.lit (Lit.string z)))::rest) W):
  ∀i,i<11→W.cell? ⟨0,1+i,none⟩=some (.string (wordsL.getD i ByteArray.empty)):=by
 obtain⟨ps,⟨_,_,_,_,_,_,_,_,_,_,⟨g',t',cs,fuel,p,q,hg',ht',hvar,hd,_,_⟩,_⟩,_⟩:=h;obtain rfl:=Option.some.inj (gWords.symm.trans hg');obtain rfl:=Option.some.inj (typeWords.symm.trans ht');have hc:=cells_of_strs underlying150 underlying9 cellsString cellsWords hd;intro i hi;have h1:=World.var?_cell gWords hvar (1+i);rw[h1];have hz:words12[1+i]? =some (wordsL.getD i ByteArray.empty).data.toList:=by
  have hl:i<wordsL.length:=hi;rw[Nat.add_comm];simp[words12,List.getD,hl]
 have h2:=hc (1+i) _ hz;simpa using h2
theorem laid_mem{w:World}: ∀{l:List (String × DataW Unit)} {ps:List MemPlace},DataW.LaidVars Tryz.prog w l ps→∀{i:Nat} {n:String} {d:DataW Unit},l[i]? =some (n,d)→
  ∃g t cs fuel p,Tryz.prog.globalNamed n=some g∧(Tryz.prog.globals[g]?).map (·.type)=some t∧w.var? Tryz.prog n=some cs∧DataW.trod (fun _=>()) Tryz.prog w 0 (fun _=>true) false fuel t cs.toList=some (d,p)
 |[],ps,_,i,n,d,hi=>by simp at hi
 |(m,e)::r,ps,h,i,n,d,hi=>by
  obtain⟨g,t,cs,fuel,p,q,h1,h2,h3,h4,h5,-⟩:=h;cases i with
  |zero=>
   have hi2:(m,e)=(n,d):=by simpa using hi
   obtain⟨rfl,rfl⟩:=Prod.mk.inj hi2;exact⟨g,t,cs,fuel,p,h1,h2,h3,h4⟩
  |succ i=>exact laid_mem h5 (by simpa using hi)
theorem words_in{W:World}{l:List (String × DataW Unit)}(k:Nat)(h:laidMet Tryz.prog l W)(hk:l[k]? =some ("tillerman/say.words",.agg (words12.map fun z=>DataW.lit (Lit.string z)))):
  ∀i,i<11→W.cell? ⟨0,1+i,none⟩=some (.string (wordsL.getD i ByteArray.empty)):=by
 obtain⟨ps,hv,-⟩:=h;obtain⟨g',t',cs,fuel,p,hg',ht',hvar,hd⟩:=laid_mem hv hk;obtain rfl:=Option.some.inj (gWords.symm.trans hg');obtain rfl:=Option.some.inj (typeWords.symm.trans ht');have hc:=cells_of_strs underlying150 underlying9 cellsString cellsWords hd;intro i hi;have h1:=World.var?_cell gWords hvar (1+i);rw[h1];have hz:words12[1+i]? =some (wordsL.getD i ByteArray.empty).data.toList:=by
  have hl:i<wordsL.length:=hi;rw[Nat.add_comm];simp[words12,List.getD,hl]
 have h2:=hc (1+i) _ hz;simpa using h2
theorem maxLen_of{W:World}(h:W.ShapedOpen Tryz.prog): ∃m,W.cell? ⟨1,0,none⟩=some (.int .i64 m):=
 Tryz.laysM143.s1_3 W h
theorem tabs_of{W:World}{d0:String × DataW Unit}{rest:List (String × DataW Unit)}(h:laidMet Tryz.prog (d0::("tillerman/say.words",.agg (words12.map fun z=>DataW.lit (Lit.string z)))::rest) W)(hs:W.ShapedOpen Tryz.prog):Tabs W:=
 ⟨words_of h,maxLen_of hs⟩
theorem tabs_in{W:World}{l:List (String × DataW Unit)}(k:Nat)(h:laidMet Tryz.prog l W)(hk:l[k]? =some ("tillerman/say.words",.agg (words12.map fun z=>DataW.lit (Lit.string z))))(hs:W.ShapedOpen Tryz.prog):Tabs W:=
 ⟨words_in k h hk,maxLen_of hs⟩
def flatN:Nat→DataW Unit→List Value
 |0,_=>[]
 |_+1,.lit (.int k n)=>[.int k n]
 |_+1,.lit (.string b)=>[.string ⟨b.toArray⟩]
 |f+1,.agg ps=>ps.flatMap (flatN f)
 |_+1,_=>[]
def putObj(d:DataW Unit):Obj→Obj
 | .cells _ t frozen=>.cells (flatN 4 d).toArray t frozen
 |o=>o
noncomputable def putTab(h:Array Obj)(x:String × DataW Unit):Array Obj:=
 match Tryz.prog.globalNamed x.1 with
 |some g=>h.modify g (putObj x.2)
 |none=>h
noncomputable def listWorld(laid:List (String × DataW Unit))(os:Os):World:=
 {World.holding Tryz.prog os ⟨#[],#[],[]⟩with heap:=laid.foldl putTab (World.holding Tryz.prog os ⟨#[],#[],[]⟩).heap}
theorem indexB_one(s:ByteArray):Lib.indexB s ⟨#[32]⟩=Lib.indexByte s.data.toList 32:=Lib.index_one _ _
theorem blank_at{s:ByteArray}{o:Nat}(h:Lib.indexB s ⟨#[32]⟩=o): ∃ho:o<s.size,s[o]'ho=32∧∀j,(hj:j<s.size)→j<o→s[j]'hj≠32:=by
 rw[indexB_one]at h;obtain⟨h1,h2⟩:=Lib.indexByte_some h;have ho:o<s.size:=by
  have:=(List.getElem?_eq_some_iff.1 h1).1;simpa using this
 refine⟨ho,?_,fun j hj hlt he=>h2 j hlt ?_⟩
 ·rw[Lib.data_getElem? s o ho]at h1;exact Option.some.inj h1
 ·rw[Lib.data_getElem? s j hj,he]
theorem no_blank{s:ByteArray}(h:Lib.indexB s ⟨#[32]⟩= -1): ∀j,(hj:j<s.size)→s[j]'hj≠32:=by
 rw[indexB_one]at h;intro j hj he;refine Lib.indexByte_none h j ?_;rw[Lib.data_getElem? s j hj,he]
theorem u8_ne{c:UInt8}(h:c≠32):((c.toNat:Int)==32)=false:=by
 simp only[beq_eq_false_iff_ne];intro he;apply h;apply UInt8.toNat.inj;show c.toNat=32;omega
theorem upTo_no(s:ByteArray)(w:World)(hm:s.size≤maxLen)(h:Lib.indexB s ⟨#[32]⟩= -1):
  Calls Tryz.prog 83 #[.string s] w fun e w'=>e= .returned (.tuple #[.string s,.string ⟨#[]⟩,.bool false])∧w=w':=by
 unfold maxLen at hm;have HN:=Hd (no_blank h);clear h;go_enter func83,ntmps83
 go_wp2_with fail
 go_loop [5] (fun i=>∃k:Nat,k≤s.size∧i= .int .i64 k) (fun i=>s.size-(intOf i).toNat)
 case atStart=>exact⟨0,Nat.zero_le _,rfl⟩
 case round=>
  obtain⟨k,hk,rfl⟩:=hrel;by_cases hlt:k<s.size
  ·obtain⟨c,ec⟩: ∃c,s[k]'hlt=c:=⟨_,rfl⟩;have hb:((c.toNat:Int)==32)=false:=u8_ne (by rw[←ec];exact HN.out k hlt)
   go_wp2_with fail
   go_round
   case rel=>exact⟨k+1,by omega,by go_num⟩
   case measure=>simp[intOf];omega
  ·go_wp2_with fail
   go_ret3
   exact⟨rfl,rfl⟩
theorem upTo_yes(s:ByteArray)(o:Nat)(w:World)(hm:s.size≤maxLen)(h:Lib.indexB s ⟨#[32]⟩=o):
  Calls Tryz.prog 83 #[.string s] w fun e w'=>e= .returned (.tuple #[.string (s.extract 0 o),.string (s.extract (o+1) s.size),.bool true])∧∃n,w'=w.drewN n:=by
 unfold maxLen at hm;obtain⟨ho,h1,h2⟩:=blank_at h;have H1:=Hd h1;have H2:=Hd h2;clear h h1 h2;go_enter func83,ntmps83
 go_wp2_with fail
 go_loop [5] (fun i=>∃k:Nat,k≤o∧i= .int .i64 k) (fun i=>s.size-(intOf i).toNat)
 case atStart=>exact⟨0,Nat.zero_le _,rfl⟩
 case round=>
  obtain⟨k,hk,rfl⟩:=hrel;have hlt:k<s.size:=by omega
  obtain⟨c,ec⟩: ∃c,s[k]'hlt=c:=⟨_,rfl⟩;by_cases hko:k<o
  ·have hb:((c.toNat:Int)==32)=false:=u8_ne (by rw[←ec];exact H2.out k hlt hko)
   go_wp2_with fail
   go_round
   case rel=>exact⟨k+1,by omega,by go_num⟩
   case measure=>simp[intOf];omega
  ·obtain rfl:k=o:=by omega
   have hb:((c.toNat:Int)==32)=true:=by rw[←ec,H1.out];rfl
   have g1:IntKind.i64.wrap ((k:Int)+1)=(k:Int)+1:=IntWalk.i64_in _ (by omega)
   have g2:(0:Int)≤(k:Int)+1:=by omega
   have g3:((k:Int)+1).toNat=k+1:=by omega
   have g4:(k:Int)+1≤(s.size:Int):=by omega
   have g5:(0:Int)≤(k:Int):=by omega
   have g6:(k:Int)≤(s.size:Int):=by omega
   have g7:((k:Int)).toNat=k:=by omega
   go_wp2_with fail
   go_quiet (fail)
   go_wp2_with fail
   go_ret3
   exact⟨rfl,_,rfl⟩
theorem word_any(k:Int)(w:World)(h1:1≤k)(h2:k≤11):
  Calls Tryz.prog 84 #[.int .i64 k] w fun e w'=>e= .returned (.string (wordsL.getD (k.toNat-1) ByteArray.empty))∧Below w.heap.size w w':=by
 have hk:k=1∨k=2∨k=3∨k=4∨k=5∨k=6∨k=7∨k=8∨k=9∨k=10∨k=11:=by omega
 rcases hk with rfl|rfl|rfl|rfl|rfl|rfl|rfl|rfl|rfl|rfl|rfl;all_goals
  go_enter func84,ntmps84
  go_wp2_with fail
  go_ret;exact⟨rfl,boxed _ _⟩
section
variable (k:Int)(key val:ByteArray)(w:World)
theorem fault_kind(h:k<1∨11<k):
  Calls Tryz.prog 85 #[.agg #[.int .i64 k,.string key,.string val]] w fun e w'=>e= .returned (.int .i64 3)∧Below w.heap.size w w':=by
 go_enter func85,ntmps85
 go_wp2_with fail
 refine(in_no _ _ _ _ h).mono ?_;rintro e w1 ⟨rfl,rfl⟩;go_wp2_with fail
 go_ret;exact⟨rfl,boxed _ _⟩
theorem fault_low(h1:1≤k)(h2:k≤5):
  Calls Tryz.prog 85 #[.agg #[.int .i64 k,.string key,.string val]] w fun e w'=>e= .returned (.int .i64 (if isE key&&isE val then 0 else 4))∧Below w.heap.size w w':=by
 have d1:decide (k<6)=true:=by simp;omega
 unfold isE;cases e1:key.toList.isEmpty<;>cases e2:val.toList.isEmpty;all_goals
  have f1:=e1;have f2:=e2;simp only[List.isEmpty_iff,List.isEmpty_eq_false_iff]at f1 f2;go_enter func85,ntmps85
  go_wp2_with fail
  refine(in_yes _ _ _ _ (by omega) (by omega)).mono ?_
  rintro e w1 ⟨rfl,rfl⟩;go_wp2_with fail
  go_ret;exact⟨by simp,boxed _ _⟩
theorem fault_name(h1:6≤k)(h2:k≤11)(hm:key.size≤maxLen)(hn:nameB key=false):
  Calls Tryz.prog 85 #[.agg #[.int .i64 k,.string key,.string val]] w fun e w'=>e= .returned (.int .i64 4)∧Below w.heap.size w w':=by
 have d1:decide (k<6)=false:=by simp;omega
 have HN:=Hd hn;clear hn;go_enter func85,ntmps85
 go_wp2_with fail
 refine(in_yes _ _ _ _ (by omega) (by omega)).mono ?_
 rintro e w1 ⟨rfl,rfl⟩;go_wp2_with fail
 refine(nameMay_any key _ hm).mono ?_;rintro e w1 ⟨rfl,rfl⟩;rw[HN.out];go_wp2_with fail
 go_ret;exact⟨rfl,boxed _ _⟩
theorem fault_mid(h:k=6∨k=7∨k=8)(hm:key.size≤maxLen)(hn:nameB key=true):
  Calls Tryz.prog 85 #[.agg #[.int .i64 k,.string key,.string val]] w fun e w'=>e= .returned (.int .i64 (if isE val then 0 else 4))∧Below w.heap.size w w':=by
 have HN:=Hd hn;clear hn;unfold isE;cases e2:val.toList.isEmpty<;>rcases h with rfl|rfl|rfl
 all_goals
  have f2:=e2;simp only[List.isEmpty_iff,List.isEmpty_eq_false_iff]at f2;go_enter func85,ntmps85
  go_wp2_with fail
  refine(in_yes _ _ _ _ (by omega) (by omega)).mono ?_
  rintro e w1 ⟨rfl,rfl⟩;go_wp2_with fail
  refine(nameMay_any key _ hm).mono ?_;rintro e w1 ⟨rfl,rfl⟩;rw[HN.out];go_wp2_with fail
  go_ret;exact⟨by simp,boxed _ _⟩
theorem fault_set(h:k=9∨k=10)(hm:key.size≤maxLen)(hm2:val.size≤maxLen)(hn:nameB key=true):
  Calls Tryz.prog 85 #[.agg #[.int .i64 k,.string key,.string val]] w fun e w'=>e= .returned (.int .i64 (if valueB val then 0 else 4))∧Below w.heap.size w w':=by
 have HN:=Hd hn;clear hn;cases hv:valueB val;all_goals
  have HV:=Hd hv;clear hv;rcases h with rfl|rfl
 all_goals
  go_enter func85,ntmps85
  go_wp2_with fail
  refine(in_yes _ _ _ _ (by omega) (by omega)).mono ?_
  rintro e w1 ⟨rfl,rfl⟩;go_wp2_with fail
  refine(nameMay_any key _ hm).mono ?_;rintro e w1 ⟨rfl,rfl⟩;rw[HN.out];go_wp2_with fail
  refine(valueMay_any val _ hm2).mono ?_;rintro e w1 ⟨rfl,rfl⟩;rw[HV.out];go_wp2_with fail
  go_ret;exact⟨by simp,boxed _ _⟩
theorem fault_prep(hT:Tabs w)(hm:key.size≤maxLen)(hn:nameB key=true)(hr:ReadOk 52 val):
  Calls Tryz.prog 85 #[.agg #[.int .i64 11,.string key,.string val]] w fun e w'=>e= .returned (.int .i64 (if prepB val then 0 else 4))∧Below w.heap.size w w':=by
 have HN:=Hd hn;have HR:=Hd hr;have HT:=Hd hT;clear hn hr hT;obtain⟨rk,hrk⟩: ∃rk,(readS val).k=rk:=⟨_,rfl⟩;rw[prep_read,hrk];have RK:=Hd hrk;clear hrk;cases h0:decide (readE val=0)with
 |false=>
  have g0:(readE val !=0)=true:=by simpa using h0
  simp only[Bool.false_and,Bool.false_eq_true,if_false];have G:=Hd h0;clear h0;go_enter func85,ntmps85
  go_wp2_with fail
  refine(in_yes _ _ _ _ (by omega) (by omega)).mono ?_
  rintro e w1 ⟨rfl,rfl⟩;go_wp2_with fail
  refine(nameMay_any key _ hm).mono ?_;rintro e w1 ⟨rfl,rfl⟩;rw[HN.out];go_wp2_with fail
  refine(HR.out _ (HT.out.alloc _)).mono ?_;rintro e w2 ⟨rfl,hb2⟩;have hb:=below_of_alloc leR hb2;clear hb2;unfold St.v;rw[RK.out];go_wp2_with fail
  go_ret;exact⟨rfl,hb.alloc hb.size _⟩
 |true=>
  have g0:(readE val !=0)=false:=by simpa using h0
  rw[Bool.true_and];have G:=Hd h0;clear h0;by_cases h67:6≤rk∧rk≤7
  ·obtain⟨h6,h7⟩:=h67;have e:(decide (rk=6)||decide (rk=7)||decide (rk=10))=true:=by simp;omega
   simp only[e,if_true];clear e;go_enter func85,ntmps85
   go_wp2_with fail
   refine(in_yes _ _ _ _ (by omega) (by omega)).mono ?_
   rintro e w1 ⟨rfl,rfl⟩;go_wp2_with fail
   refine(nameMay_any key _ hm).mono ?_;rintro e w1 ⟨rfl,rfl⟩;rw[HN.out];go_wp2_with fail
   refine(HR.out _ (HT.out.alloc _)).mono ?_;rintro e w2 ⟨rfl,hb2⟩;have hb:=below_of_alloc leR hb2;clear hb2;unfold St.v;rw[RK.out];go_wp2_with fail
   refine(in_yes _ _ _ _ (by omega) (by omega)).mono ?_
   rintro e w1 ⟨rfl,rfl⟩;go_wp2_with fail
   go_ret;exact⟨rfl,hb.alloc hb.size _⟩
  ·by_cases h10:rk=10
   ·have b10:(rk !=10)=false:=by simp[h10]
    have e:(decide (rk=6)||decide (rk=7)||decide (rk=10))=true:=by simp[h10]
    have h67':rk<6∨7<rk:=by omega
    have H67:=Hd h67';simp only[e,if_true];clear e h10 h67 h67';go_enter func85,ntmps85
    go_wp2_with fail
    refine(in_yes _ _ _ _ (by omega) (by omega)).mono ?_
    rintro e w1 ⟨rfl,rfl⟩;go_wp2_with fail
    refine(nameMay_any key _ hm).mono ?_;rintro e w1 ⟨rfl,rfl⟩;rw[HN.out];go_wp2_with fail
    refine(HR.out _ (HT.out.alloc _)).mono ?_;rintro e w2 ⟨rfl,hb2⟩;have hb:=below_of_alloc leR hb2;clear hb2;unfold St.v;rw[RK.out];go_wp2_with fail
    refine(in_no _ _ _ _ H67.out).mono ?_;rintro e w1 ⟨rfl,rfl⟩;go_wp2_with fail
    go_ret;exact⟨rfl,hb.alloc hb.size _⟩
   ·have b10:(rk !=10)=true:=by simp[h10]
    have e:(decide (rk=6)||decide (rk=7)||decide (rk=10))=false:=by simp;omega
    have h67':rk<6∨7<rk:=by omega
    have H67:=Hd h67';simp only[e,Bool.false_eq_true,if_false];clear e h10 h67 h67';go_enter func85,ntmps85
    go_wp2_with fail
    refine(in_yes _ _ _ _ (by omega) (by omega)).mono ?_
    rintro e w1 ⟨rfl,rfl⟩;go_wp2_with fail
    refine(nameMay_any key _ hm).mono ?_;rintro e w1 ⟨rfl,rfl⟩;rw[HN.out];go_wp2_with fail
    refine(HR.out _ (HT.out.alloc _)).mono ?_;rintro e w2 ⟨rfl,hb2⟩;have hb:=below_of_alloc leR hb2;clear hb2;unfold St.v;rw[RK.out];go_wp2_with fail
    refine(in_no _ _ _ _ H67.out).mono ?_;rintro e w1 ⟨rfl,rfl⟩;go_wp2_with fail
    go_ret;exact⟨rfl,hb.alloc hb.size _⟩
theorem fault_any(hT:Tabs w)(hm:key.size≤maxLen)(hm2:val.size≤maxLen)(hr:k=11→ReadOk 52 val):
  Calls Tryz.prog 85 #[.agg #[.int .i64 k,.string key,.string val]] w fun e w'=>e= .returned (.int .i64 (checkE ⟨k,key,val⟩))∧Below w.heap.size w w':=by
 unfold checkE plainE;by_cases h0:k<1∨11<k
 ·rw[if_neg (by simp;omega),if_pos h0]
  exact fault_kind k key val w h0
 by_cases h6:k<6
 ·rw[if_neg (by simp;omega),if_neg h0,if_pos h6]
  exact fault_low k key val w (by omega) (by omega)
 cases hn:nameB key with
 |false=>
  have e:(if k=11 then(if(false&&prepB val)=true then(0:Int)else 4)else if k<1∨11<k then 3 else if k<6 then(if(isE key&&isE val)=true then 0 else 4)else if(!false)=true then 4 else if k<9 then(if isE val=true then 0 else 4)else if valueB val=true then 0 else 4)=4:=by
   rw[if_neg h0,if_neg h6];simp
  simp only[e];exact fault_name k key val w (by omega) (by omega) hm hn
 |true=>
  simp only[Bool.true_and,Bool.not_true,Bool.false_eq_true,if_false];by_cases h11:k=11
  ·subst h11;rw[if_pos rfl];exact fault_prep key val w hT hm hn (hr rfl)
  rw[if_neg h11,if_neg h0,if_neg h6];by_cases h9:k<9
  ·rw[if_pos h9];exact fault_mid k key val w (by omega) hm hn
  ·rw[if_neg h9];exact fault_set k key val w (by omega) hm hm2 hn
end
theorem parts_none{t:ByteArray}(h:Lib.indexB t ⟨#[32]⟩= -1):parts t=[t]:=Lib.splitB_miss _ _ _ _ h
theorem index_cases(t:ByteArray):Lib.indexB t ⟨#[32]⟩= -1∨∃o:Nat,Lib.indexB t ⟨#[32]⟩=o:=by
 have:=Lib.index_ge t.data.toList (⟨#[32]⟩:ByteArray).data.toList;rcases Int.lt_or_le (Lib.indexB t ⟨#[32]⟩) 0 with h|h
 ·exact .inl (by show Lib.index _ _= -1;have:Lib.index t.data.toList (⟨#[32]⟩:ByteArray).data.toList<0:=h;omega)
 ·exact .inr ⟨(Lib.indexB t ⟨#[32]⟩).toNat,by omega⟩
theorem kind_word(j:Nat)(h1:1≤j)(h2:j≤11):kindOf (wordsL.getD (j-1) ByteArray.empty)=j:=by
 have hk:j=1∨j=2∨j=3∨j=4∨j=5∨j=6∨j=7∨j=8∨j=9∨j=10∨j=11:=by omega
 rcases hk with rfl|rfl|rfl|rfl|rfl|rfl|rfl|rfl|rfl|rfl|rfl<;>decide+kernel
theorem idx_at(x:ByteArray): ∀(zs:List ByteArray) (i k:Nat),Lib.idxFromS zs x i=((i+k:Nat):Int)→zs.getD k ByteArray.empty=x
 |[],i,k,h=>by simp[Lib.idxFromS]at h;omega
 |z::zs,i,k,h=>by
  unfold Lib.idxFromS at h;by_cases hz:z=x
  ·rw[if_pos hz]at h;obtain rfl:k=0:=by omega
   simpa using hz
  ·rw[if_neg hz]at h;rcases k with _|k
   ·exfalso;rcases idx_bd x zs (i+1)with h1|⟨h1,h2⟩
    ·omega
    ·have:=idx_ge x zs (i+1);omega
   ·have:=idx_at x zs (i+1) k (by rw[h];omega)
    simpa using this
where
 idx_ge (x:ByteArray): ∀(zs:List ByteArray) (i:Nat),Lib.idxFromS zs x i= -1∨(i:Int)≤Lib.idxFromS zs x i
  |[],i=>.inl rfl
  |z::zs,i=>by
   unfold Lib.idxFromS;by_cases hz:z=x
   ·rw[if_pos hz];exact .inr (Int.le_refl _)
   ·rw[if_neg hz];rcases idx_ge x zs (i+1)with h|h
    ·exact .inl h
    ·exact .inr (by omega)
theorem word_iff(x:ByteArray)(j:Nat)(h1:1≤j)(h2:j≤11):((wordsL.getD (j-1) ByteArray.empty).toList==x.toList)=decide (kindOf x=j):=by
 rw[Bool.eq_iff_iff,Lib.bytes_beq_iff,decide_eq_true_iff];constructor
 ·rintro rfl;exact kind_word j h1 h2
 ·intro h;refine idx_at x wordsL 0 (j-1) ?_;have:Lib.idxOfS wordsL x+1=j:=h;unfold Lib.idxOfS at this;omega
theorem stmtOf_long(t:ByteArray)(w:World)(ht:60<t.size)(hm:t.size≤maxLen):
  Calls Tryz.prog 52 #[.string t] w fun e w'=>e= .returned (.tuple #[St.none.v,.int .i64 1])∧Below w.heap.size w w':=by
 unfold maxLen at hm;go_enter func52,ntmps52
 go_wp2_with fail
 exact bodyPost_ret (v:=.tuple #[St.none.v,.int .i64 1]) (by simp[results,results52,go_sem,St.v,St.none]) rfl ⟨rfl,boxed _ _⟩
def soFar(K:Int)(j:Nat):Int:=if 1≤K∧K<j then K else 0
structure Mid2(w wx:World)(K:Int)(p1 p2:ByteArray)(b:Nat):Prop where
 lt:w.heap.size<b
 bel:Below w.heap.size w wx
 res:Blk wx w.heap.size 41 #[.int .i64 0,.string ⟨#[]⟩,.string ⟨#[]⟩]
 stm:Blk wx b 41 #[.int .i64 K,.string p1,.string p2]
section
variable {w wx:World}{K:Int}{p1 p2:ByteArray}{b:Nat}
theorem Mid2.cells(m:Mid2 w wx K p1 p2 b):wx.cell? ⟨w.heap.size,0,none⟩=some (.int .i64 0)∧wx.cell? ⟨w.heap.size,1,none⟩=some (.string ⟨#[]⟩)∧wx.cell? ⟨w.heap.size,2,none⟩=some (.string ⟨#[]⟩)∧
  wx.cell? ⟨b,0,none⟩=some (.int .i64 K)∧wx.cell? ⟨b,1,none⟩=some (.string p1)∧wx.cell? ⟨b,2,none⟩=some (.string p2)∧
  (∀i,wx.frozen? ⟨w.heap.size,i,none⟩=false)∧(∀i,wx.frozen? ⟨b,i,none⟩=false):=
 ⟨m.res.cell 0,m.res.cell 1,m.res.cell 2,m.stm.cell 0,m.stm.cell 1,m.stm.cell 2,m.res.frozen,m.stm.frozen⟩
theorem Mid2.set_0(m:Mid2 w wx K p1 p2 b)(q:Int):Mid2 w (wx.setCell ⟨b,0,none⟩ (.int .i64 q)) q p1 p2 b:=
 ⟨m.lt,m.bel.setCell (Nat.le_of_lt m.lt) _,m.res.far (Nat.ne_of_lt m.lt) _,m.stm.set_ 0 _⟩
theorem Mid2.set_1(m:Mid2 w wx K p1 p2 b)(q:ByteArray):Mid2 w (wx.setCell ⟨b,1,none⟩ (.string q)) K q p2 b:=
 ⟨m.lt,m.bel.setCell (Nat.le_of_lt m.lt) _,m.res.far (Nat.ne_of_lt m.lt) _,m.stm.set_ 1 _⟩
theorem Mid2.set_2(m:Mid2 w wx K p1 p2 b)(q:ByteArray):Mid2 w (wx.setCell ⟨b,2,none⟩ (.string q)) K p1 q b:=
 ⟨m.lt,m.bel.setCell (Nat.le_of_lt m.lt) _,m.res.far (Nat.ne_of_lt m.lt) _,m.stm.set_ 2 _⟩
theorem Mid2.keep{w3:World}(m:Mid2 w wx K p1 p2 b)(hb:Below wx.heap.size wx w3):Mid2 w w3 K p1 p2 b:=
 ⟨m.lt,below_step m.bel leR hb,m.res.keep hb,m.stm.keep hb⟩
theorem Mid2.drewN(m:Mid2 w wx K p1 p2 b)(n:Nat):Mid2 w (wx.drewN n) K p1 p2 b:=⟨m.lt,below_drewN m.bel n,m.res.drewN n,m.stm.drewN n⟩
end
def wordN(j:Nat):ByteArray:=wordsL.getD (j-1) ByteArray.empty
theorem wordN_iff(x:ByteArray)(j:Nat)(h1:1≤j)(h2:j≤11):((wordN j).toList==x.toList)=decide (kindOf x=j):=word_iff x j h1 h2
theorem word_nat(j:Nat)(w:World)(h1:1≤j)(h2:j≤11):
  Calls Tryz.prog 84 #[.int .i64 (j:Int)] w fun e w'=>e= .returned (.string (wordN j))∧Below w.heap.size w w':=
 word_any j w (by omega) (by omega)
theorem soFar_one(K:Int):soFar K 1=0:=by unfold soFar;rw[if_neg (by omega)]
theorem soFar_hit{K:Int}{j:Nat}(h:K=j)(h1:1≤j):soFar K (j+1)=j:=by unfold soFar;rw[if_pos (by omega)];exact h
theorem soFar_miss{K:Int}{j:Nat}(h:K≠j):soFar K (j+1)=soFar K j:=by
 unfold soFar;by_cases h1:1≤K∧K<j
 ·rw[if_pos h1,if_pos (by omega)]
 ·rw[if_neg h1,if_neg (by omega)]
theorem soFar_end{K:Int}(h0:0≤K)(h1:K≤11):soFar K 12=K:=by
 unfold soFar;by_cases h:K=0
 ·rw[if_neg (by omega),h]
 ·rw[if_pos (by omega)]
def Cut(t word rest:ByteArray)(more:Bool):Prop:=
 (more=false∧rest=⟨#[]⟩∧parts t=[word])∨(more=true∧parts t=word::Lib.splitB ⟨#[32]⟩ 0 1 rest∧rest.size≤t.size)
theorem Cut.word{t word rest:ByteArray}{more:Bool}(h:Cut t word rest more):partAt t 0=word:=by
 unfold partAt;rcases h with⟨_,_,h⟩|⟨_,h,_⟩<;>rw[h]<;>rfl
theorem cut_no{t:ByteArray}(h:Lib.indexB t ⟨#[32]⟩= -1):Cut t t ⟨#[]⟩ false:=.inl ⟨rfl,rfl,parts_none h⟩
theorem cut_yes{t:ByteArray}{o:Nat}(h:Lib.indexB t ⟨#[32]⟩=o):Cut t (t.extract 0 o) (t.extract (o+1) t.size) true:=by
 refine .inr ⟨rfl,?_,?_⟩
 ·have e:=Lib.splitB_hit ⟨#[32]⟩ 0 1 t o h;exact e
 ·rw[ByteArray.size_extract];omega
theorem stmtOf_1(t:ByteArray)(w:World)(ht:t.size≤60)(hT:Tabs w)(hsub:kindOf (partAt t 0)=11→ReadOk 52 (partAt t 2)):
  Calls Tryz.prog 52 #[.string t] w fun e w'=>e= .returned (.tuple #[(readS t).v,.int .i64 (readE t)])∧Below w.heap.size w w':=by
 have hm:t.size≤maxLen:=by unfold maxLen;omega
 have HT:=Hd hT;have HS:=Hd hsub;clear hT hsub;go_enter func52,ntmps52
 go_upto_region 3 with fail
 go_cut [4,5,6] (fun a b c wx=>∃(word rest:ByteArray) (more:Bool),Cut t word rest more∧a= .string word∧b= .string rest∧c= .bool more∧
  Below w.heap.size w wx∧Blk wx w.heap.size 41 #[.int .i64 0,.string ⟨#[]⟩,.string ⟨#[]⟩]∧wx.heap.size=w.heap.size+1)
 case first=>
  rcases index_cases t with hi|⟨o,hi⟩
  ·have HI:=Hd hi;clear hi;go_wp2_with fail
   refine(upTo_no t _ hm HI.out).mono ?_;rintro e w1 ⟨rfl,rfl⟩;go_wp2_with fail
   go_meet;exact⟨_,_,_,cut_no HI.out,rfl,rfl,rfl,boxed _ _,Blk.new _ _ _,by simp⟩
  ·have HI:=Hd hi;clear hi;go_wp2_with fail
   refine(upTo_yes t o _ hm HI.out).mono ?_;rintro e w1 ⟨rfl,nd,rfl⟩;go_wp2_with fail
   go_meet;exact⟨_,_,_,cut_yes HI.out,rfl,rfl,rfl,below_drewN (boxed _ _) _,(Blk.new _ _ _).drewN _,by simp[World.drewN]⟩
 case rest=>
  obtain⟨word,rest,more,hcut',rfl,rfl,rfl,hbc,hres,hzc⟩:=hcut;have hw0:=hcut'.word;obtain⟨K,hK⟩: ∃K,kindOf word=K:=⟨_,rfl⟩;obtain⟨k1,k2⟩:=kindOf_bd word;rw[hK]at k1 k2;have M0:Mid2 w (wc.alloc (.cells #[.int .i64 0,.string ⟨#[]⟩,.string ⟨#[]⟩] 41)) (soFar K 1) ⟨#[]⟩ ⟨#[]⟩ wc.heap.size:=
   ⟨by omega,hbc.alloc hbc.size _,hres.alloc _,by rw[soFar_one];exact Blk.new _ _ _⟩
  have KK:=Hd hK;have HC:=Hd hcut';have HW:=Hd hw0;have HM:=Hd M0;clear hK hcut' hw0 M0 hbc hres hzc;obtain⟨b,hb⟩: ∃b,wc.heap.size=b:=⟨_,rfl⟩;rw[hb]at HM;have HB:=Hd hb;go_wp2_with fail
  clear hb;go_loopw [8] (fun i wr=>∃j:Nat,1≤j∧j≤12∧i= .int .i64 j∧Mid2 w wr (soFar K j) ⟨#[]⟩ ⟨#[]⟩ b) (fun i _=>12-(intOf i).toNat)
  case atStart=>exact⟨1,by omega,by omega,rfl,HM.out⟩
  case round=>
   obtain⟨j,j1,j2,rfl,hM⟩:=hrel;clear HM;by_cases hj:j≤11
   ·have HM:=Hd hM;clear hM;by_cases hKj:K=j
    ·have hb0:((wordN j).toList==word.toList)=true:=by rw[wordN_iff _ _ j1 hj,KK.out];simp[hKj]
     have HKj:=Hd hKj;clear hKj;go_wp2_with fail
     refine(word_nat j _ j1 hj).mono ?_;rintro e w3 ⟨rfl,hb3⟩;have N:=HM.out.keep hb3;obtain⟨r0,r1,r2,s0,s1,s2,fr,fs⟩:=N.cells;have HN:=Hd N;clear N hb3 HM;go_wp2_with fail
     go_roundw
     case rel=>exact⟨j+1,by omega,by omega,by go_num,by rw[soFar_hit HKj.out j1];exact HN.out.set_0 _⟩
     case measure=>simp[intOf];omega
    ·have hb0:((wordN j).toList==word.toList)=false:=by rw[wordN_iff _ _ j1 hj,KK.out];simp[hKj]
     have HKj:=Hd hKj;clear hKj;go_wp2_with fail
     refine(word_nat j _ j1 hj).mono ?_;rintro e w3 ⟨rfl,hb3⟩;have N:=HM.out.keep hb3;have HN:=Hd N;clear N hb3 HM;go_wp2_with fail
     go_roundw
     case rel=>exact⟨j+1,by omega,by omega,by go_num,by rw[soFar_miss HKj.out];exact HN.out⟩
     case measure=>simp[intOf];omega
   ·obtain rfl:j=12:=by omega
    rw[soFar_end k1 k2]at hM;obtain⟨r0,r1,r2,s0,s1,s2,fr,fs⟩:=hM.cells;have n1:b≠w.heap.size:=Nat.ne_of_gt hM.lt;have n2:w.heap.size≠b:=Nat.ne_of_lt hM.lt;have HM:=Hd hM;clear hM;by_cases hK0:K=0
    ·have hb0:(K==0)=true:=by simp[hK0]
     have e1:readE t=3:=by unfold readE;rw[if_neg (by omega),if_pos (by rw[HW.out,KK.out];exact hK0)]
     have HRD:=Hd e1;clear e1 hK0;go_wp2_with fail
     have MM:=Hd (HM.out);refine bodyPost_ret (v:=.tuple #[St.none.v,.int .i64 3]) ?_ rfl ⟨by unfold readS;rw[HRD.out];rfl,?_⟩
     ·simp[results,results52,go_sem,St.v,St.none,r0,r1,r2]
     ·exact((MM.out.bel.setCell leR _).setCell leR _).setCell leR _
    ·have hb0:(K==0)=false:=by simp[hK0]
     have HKK:=Hd (show kindOf (partAt t 0)≠0 by rw[HW.out,KK.out];exact hK0)
     have HRK:=Hd (show(rawOf t).k=K by unfold rawOf;rw[HW.out,KK.out])
     have hsub:K=11→ReadOk 52 (partAt t 2):=fun h=>HS.out (by rw[HW.out,KK.out];exact h)
     clear hK0;rcases HC.out with⟨rfl,rfl,hp⟩|⟨rfl,hp,hrs⟩
     ·have e1:partAt t 1=⟨#[]⟩:=by unfold partAt;rw[hp];rfl
      have e2:partAt t 2=⟨#[]⟩:=by unfold partAt;rw[hp];rfl
      have hbare:bare t=false:=by unfold bare;rw[hp];rfl
      have hraw:rawOf t=⟨K,⟨#[]⟩,⟨#[]⟩⟩:=by rw[←HRK.out,←e1];unfold rawOf;rw[e1,e2]
      have HRD:=Hd (read_go ht HKK.out hbare hraw);rw[e2]at hsub;have HR:=Hd hraw;have HSS:=Hd hsub;clear hraw hbare hp e1 e2 HC hsub;go_wp2_with fail
      have MM:=Hd HM.out;clear r0 r1 r2 s0 s1 s2 fr fs;refine(fault_any K _ _ _ (HT.out.below MM.out.bel) (Nat.zero_le _) (Nat.zero_le _) HSS.out).mono ?_;rintro e w4 ⟨rfl,hb3⟩;have N3:=MM.out.keep hb3;obtain⟨r0,r1,r2,s0,s1,s2,fr,fs⟩:=N3.cells;have HN:=Hd N3;clear N3 hb3 MM;rw[←HRD.out];by_cases he:readE t=0
      ·have hb0:(readE t !=0)=false:=by simp[he]
       have HE:=Hd he;clear he;go_wp2_with fail
       refine bodyPost_ret (v:=.tuple #[(rawOf t).v,.int .i64 0]) ?_ rfl ⟨by rw[HE.out];unfold readS;rw[if_pos HE.out],?_⟩
       ·rw[HR.out];simp[results,results52,go_sem,St.v,r0,r1,r2]
       ·exact((HN.out.bel.setCell leR _).setCell leR _).setCell leR _
      ·have hb0:(readE t !=0)=true:=by simp[he]
       have HE:=Hd he;clear he;go_wp2_with fail
       refine bodyPost_ret (v:=.tuple #[St.none.v,.int .i64 (readE t)]) ?_ rfl ⟨by unfold readS;rw[if_neg HE.out],?_⟩
       ·simp[results,results52,go_sem,St.v,St.none,r0,r1,r2]
       ·exact((HN.out.bel.setCell leR _).setCell leR _).setCell leR _
     ·have hmr:rest.size≤maxLen:=by unfold maxLen;omega
      rcases index_cases rest with hi|⟨o,hi⟩
      ·rw[Lib.splitB_miss _ _ _ _ hi]at hp;have e1:partAt t 1=rest:=by unfold partAt;rw[hp];rfl
       have e2:partAt t 2=⟨#[]⟩:=by unfold partAt;rw[hp];rfl
       have hraw:rawOf t=⟨K,rest,⟨#[]⟩⟩:=by rw[←HRK.out,←e1,←e2];rfl
       have hbare:bare t=isE rest:=by unfold bare;rw[e1,hp];simp
       rw[e2]at hsub;have HI:=Hd hi;have HR:=Hd hraw;have HBR:=Hd hbare;have HSS:=Hd hsub;clear hi hraw hbare hp e1 e2 hsub HC;cases he1:rest.toList.isEmpty with
       |true=>
        have f1:=he1;simp only[List.isEmpty_iff]at f1;have HRD:=Hd (read_bare ht HKK.out (by rw[HBR.out];exact he1))
        go_wp2_with fail
        refine(upTo_no rest _ hmr HI.out).mono ?_;rintro e w3 ⟨rfl,rfl⟩;go_wp2_with fail
        have MM:=Hd ((HM.out.set_1 rest).set_2 ⟨#[]⟩);refine bodyPost_ret (v:=.tuple #[St.none.v,.int .i64 4]) ?_ rfl ⟨by unfold readS;rw[HRD.out];rfl,?_⟩
        ·simp[results,results52,go_sem,St.v,St.none,r0,r1,r2]
        ·exact((MM.out.bel.setCell leR _).setCell leR _).setCell leR _
       |false=>
        have f1:=he1;simp only[List.isEmpty_eq_false_iff]at f1;have HRD:=Hd (read_go ht HKK.out (by rw[HBR.out];exact he1) HR.out)
        go_wp2_with fail
        refine(upTo_no rest _ hmr HI.out).mono ?_;rintro e w3 ⟨rfl,rfl⟩;go_wp2_with fail
        have MM:=Hd ((HM.out.set_1 rest).set_2 ⟨#[]⟩);clear r0 r1 r2 s0 s1 s2 fr fs;refine(fault_any K _ _ _ (HT.out.below MM.out.bel) hmr (Nat.zero_le _) HSS.out).mono ?_;rintro e w4 ⟨rfl,hb3⟩;have N3:=MM.out.keep hb3;obtain⟨r0,r1,r2,s0,s1,s2,fr,fs⟩:=N3.cells;have HN:=Hd N3;clear N3 hb3 MM;rw[←HRD.out];by_cases he:readE t=0
        ·have hb0:(readE t !=0)=false:=by simp[he]
         have HE:=Hd he;clear he;go_wp2_with fail
         refine bodyPost_ret (v:=.tuple #[(rawOf t).v,.int .i64 0]) ?_ rfl ⟨by rw[HE.out];unfold readS;rw[if_pos HE.out],?_⟩
         ·rw[HR.out];simp[results,results52,go_sem,St.v,r0,r1,r2]
         ·exact((HN.out.bel.setCell leR _).setCell leR _).setCell leR _
        ·have hb0:(readE t !=0)=true:=by simp[he]
         have HE:=Hd he;clear he;go_wp2_with fail
         refine bodyPost_ret (v:=.tuple #[St.none.v,.int .i64 (readE t)]) ?_ rfl ⟨by unfold readS;rw[if_neg HE.out],?_⟩
         ·simp[results,results52,go_sem,St.v,St.none,r0,r1,r2]
         ·exact((HN.out.bel.setCell leR _).setCell leR _).setCell leR _
      ·obtain⟨p1,hp1⟩: ∃p,rest.extract 0 o=p:=⟨_,rfl⟩;obtain⟨p2,hp2⟩: ∃p,rest.extract (o+1) rest.size=p:=⟨_,rfl⟩;have hsp:Lib.splitB ⟨#[32]⟩ 0 1 rest=[p1,p2]:=by
        have e:=Lib.splitB_hit ⟨#[32]⟩ 0 0 rest o hi;rw[←hp1,←hp2];exact e
       have hup:=fun w3=>upTo_yes rest o w3 hmr hi;rw[hp1,hp2]at hup;rw[hsp]at hp;have e1:partAt t 1=p1:=by unfold partAt;rw[hp];rfl
       have e2:partAt t 2=p2:=by unfold partAt;rw[hp];rfl
       have hraw:rawOf t=⟨K,p1,p2⟩:=by rw[←HRK.out,←e1,←e2];rfl
       have hbare:bare t=(isE p1||isE p2):=by unfold bare;rw[e1,e2,hp];simp
       have hz1:p1.size≤maxLen:=by rw[←e1];exact Nat.le_trans (part_size t 1) hm
       have hz2:p2.size≤maxLen:=by rw[←e2];exact Nat.le_trans (part_size t 2) hm
       rw[e2]at hsub;have HR:=Hd hraw;have HBR:=Hd hbare;have HSS:=Hd hsub;have HUP:=Hd hup;have HZ:=Hd (And.intro hz1 hz2);clear hi hraw hbare hp e1 e2 hsub HC hsp hup hp1 hp2 hz1 hz2;cases he1:p1.toList.isEmpty with
       |true=>
        have f1:=he1;simp only[List.isEmpty_iff]at f1;have HRD:=Hd (read_bare ht HKK.out (by rw[HBR.out];simp[isE,he1]))
        go_wp2_with fail
        refine(HUP.out _).mono ?_;rintro e w3 ⟨rfl,nd,rfl⟩;go_wp2_with fail
        have MM:=Hd (((HM.out.drewN nd).set_1 p1).set_2 p2);refine bodyPost_ret (v:=.tuple #[St.none.v,.int .i64 4]) ?_ rfl ⟨by unfold readS;rw[HRD.out];rfl,?_⟩
        ·simp[results,results52,go_sem,St.v,St.none,r0,r1,r2]
        ·exact((MM.out.bel.setCell leR _).setCell leR _).setCell leR _
       |false=>
        have f1:=he1;simp only[List.isEmpty_eq_false_iff]at f1;cases he2:p2.toList.isEmpty with
        |true=>
         have f2:=he2;simp only[List.isEmpty_iff]at f2;have HRD:=Hd (read_bare ht HKK.out (by rw[HBR.out];simp[isE,he2]))
         go_wp2_with fail
         refine(HUP.out _).mono ?_;rintro e w3 ⟨rfl,nd,rfl⟩;go_wp2_with fail
         have MM:=Hd (((HM.out.drewN nd).set_1 p1).set_2 p2);refine bodyPost_ret (v:=.tuple #[St.none.v,.int .i64 4]) ?_ rfl ⟨by unfold readS;rw[HRD.out];rfl,?_⟩
         ·simp[results,results52,go_sem,St.v,St.none,r0,r1,r2]
         ·exact((MM.out.bel.setCell leR _).setCell leR _).setCell leR _
        |false=>
         have f2:=he2;simp only[List.isEmpty_eq_false_iff]at f2;have HRD:=Hd (read_go ht HKK.out (by rw[HBR.out];simp[isE,he1,he2]) HR.out)
         go_wp2_with fail
         refine(HUP.out _).mono ?_;rintro e w3 ⟨rfl,nd,rfl⟩;go_wp2_with fail
         have MM:=Hd (((HM.out.drewN nd).set_1 p1).set_2 p2);clear r0 r1 r2 s0 s1 s2 fr fs;refine(fault_any K _ _ _ (HT.out.below MM.out.bel) HZ.out.1 HZ.out.2 HSS.out).mono ?_;rintro e w4 ⟨rfl,hb3⟩;have N3:=MM.out.keep hb3;obtain⟨r0,r1,r2,s0,s1,s2,fr,fs⟩:=N3.cells;have HN:=Hd N3;clear N3 hb3 MM;rw[←HRD.out];by_cases he:readE t=0
         ·have hb0:(readE t !=0)=false:=by simp[he]
          have HE:=Hd he;clear he;go_wp2_with fail
          refine bodyPost_ret (v:=.tuple #[(rawOf t).v,.int .i64 0]) ?_ rfl ⟨by rw[HE.out];unfold readS;rw[if_pos HE.out],?_⟩
          ·rw[HR.out];simp[results,results52,go_sem,St.v,r0,r1,r2]
          ·exact((HN.out.bel.setCell leR _).setCell leR _).setCell leR _
         ·have hb0:(readE t !=0)=true:=by simp[he]
          have HE:=Hd he;clear he;go_wp2_with fail
          refine bodyPost_ret (v:=.tuple #[St.none.v,.int .i64 (readE t)]) ?_ rfl ⟨by unfold readS;rw[if_neg HE.out],?_⟩
          ·simp[results,results52,go_sem,St.v,St.none,r0,r1,r2]
          ·exact((HN.out.bel.setCell leR _).setCell leR _).setCell leR _
theorem stmtOf_small: ∀(n:Nat) (t:ByteArray),t.size≤n→t.size≤60→ReadOk 52 t
 |0,t,h,h60=>fun w hT=>stmtOf_1 t w h60 hT fun hk=>absurd (part_lt hk) (by omega)
 |n+1,t,h,h60=>fun w hT=>stmtOf_1 t w h60 hT fun hk=>stmtOf_small n _ (by have:=part_lt hk;omega) (by have:=part_lt hk;omega)
theorem stmtOf_any(t:ByteArray)(hm:t.size≤maxLen):ReadOk 52 t:=by
 by_cases h:60<t.size
 ·intro w _;have e:readE t=1:=by unfold readE;rw[if_pos h]
  unfold readS;rw[e];exact stmtOf_long t w h hm
 ·exact stmtOf_small t.size t leR (by omega)
end Go.Proofs.YtjbnfigpflambacGreatDoor
