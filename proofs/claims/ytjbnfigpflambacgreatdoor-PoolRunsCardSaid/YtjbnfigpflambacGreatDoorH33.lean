/- slices.Repeat of one number. Conditions: those of each lemma. -/
import Derived.Test.YtjbnfigpflambacGreatDoorH03
import Derived.Test.YtjbnfigpflambacGreatDoorH05
import Derived.Test.YtjbnfigpflambacGreatDoorH07
import Derived.Laws.MakeOwn
namespace Go.Proofs.YtjbnfigpflambacGreatDoor
set_option maxRecDepth 100000
set_option maxHeartbeats 16000000
open _root_.Go.Proofs.Tryz
open Go.ChangeShapes Go.WideShapes Go.ChangeAt Go.RowKit
structure RepS(w:World)(q n m:Nat):Prop where
 b: ∃cs:Array Value,Blk w q 3 cs∧cs.size=n∧∀j,j<m→cs[j]? =some (.int .i64 (-1))
theorem rep_splice{cs:Array Value}{n m k:Nat}(hs:cs.size=n)(hm: ∀j,j<m→cs[j]? =some (.int .i64 (-1)))(hk:m+k≤n):
  ((cs.toList.take m++List.replicate k (Value.int .i64 (-1))++cs.toList.drop (m+(List.replicate k (Value.int .i64 (-1))).length)).toArray).size=n∧
   ∀j,j<m+k→((cs.toList.take m++List.replicate k (Value.int .i64 (-1))++cs.toList.drop (m+(List.replicate k (Value.int .i64 (-1))).length)).toArray)[j]? =some (.int .i64 (-1)):=by
 have hl:cs.toList.length=n:=by simpa using hs
 refine⟨by simp;omega,fun j hj=>?_⟩
 rw[List.getElem?_toArray,List.append_assoc];rcases Nat.lt_or_ge j m with h|h
 ·rw[List.getElem?_append_left (by rw[List.length_take];omega),List.getElem?_take_of_lt h,Array.getElem?_toList]
  exact hm j h
 ·rw[List.getElem?_append_right (by rw[List.length_take];omega),List.length_take,List.getElem?_append_left (by rw[List.length_replicate];omega),List.getElem?_replicate,if_pos (by omega)]
theorem RepS.copy{w:World}{q n m k:Nat}(h:RepS w q n m){a:Addr}{sLen sCap:Nat}(hk:k=Nat.min sLen (n-m))(hmn:m≤n)(hsrc: ∀j,j<k→w.cell? (a.add j)=some (.int .i64 (-1)))(dCap:Nat):
  ∃w',(∀ty,(Builtin.copy_ #[87,87] ty #[.slice (some ⟨q,m,none⟩) (n-m) dCap,.slice (some a) sLen sCap]).run Tryz.prog w= .ok (.int .i64 (k:Int)) w')∧RepS w' q n (m+k)∧∀{B:Nat} {u:World},Below B u w→B≤q→Below B u w':=by
 obtain⟨cs,b,hs,hm⟩:=h.b;have hkn:m+k≤n:=by have:=Nat.min_le_right sLen (n-m);simp only[Nat.min_def]at hk this;split at hk<;>omega
 obtain⟨h1,h2⟩:=rep_splice hs hm hkn;obtain⟨i0,hi0,_,hz1,_⟩:=info_parts (show(Tryz.prog.info? 3).map (fun i=>(i.zero,i.size,i.bytes))=some (some (.int .i64 0),1,8)by kernel_rfl)
 refine⟨w.setRow q (cs.toList.take m++List.replicate k (Value.int .i64 (-1))++cs.toList.drop (m+(List.replicate k (Value.int .i64 (-1))).length)).toArray,fun ty=>?_,⟨_,setRow_heap w q cs _ _ _ b,h1,h2⟩,fun hb hB=>?_⟩
 ·have:=run_copy_row (P:=Tryz.prog) w 87 87 ty 3 q m (n-m) dCap a sLen sCap cs 3 (List.replicate k (.int .i64 (-1))) underlying87 (by rw[hi0];simp[hz1]) b (by rw[List.length_replicate];exact hk)
   (fun j v hj=>by
    rw[List.getElem?_replicate]at hj;split at hj
    ·injection hj with hj;subst hj;exact hsrc j (by assumption)
    ·cases hj) (by rw[List.length_replicate,hs];omega) (fun v hv=>by rw[List.eq_of_mem_replicate hv];rfl)
  rw[List.length_replicate]at this⊢;exact this
 ·exact⟨hb.os,hb.tape,hb.output,by simpa[World.setRow]using hb.size,fun k hk=>(setRow_other w q k _ (by omega)).trans (hb.block k hk)⟩
theorem rep_any(w:World)(g n:Nat)(h1:1≤n)(h4:n≤1000)(hg:w.cell? ⟨g,0,none⟩=some (.int .i64 (-1))):
  Calls Tryz.prog 42 #[.slice (some ⟨g,0,none⟩) 1 1,.int .i64 (n:Int)] w fun e w'=>∃q cs,e= .returned (.slice (some ⟨q,0,none⟩) n n)∧Blk w' q 3 cs∧cs.size=n∧(∀j,j<n→cs[j]? =some (.int .i64 (-1)))∧w.heap.size≤q∧Below w.heap.size w w':=by
 have hmul: ∀w,Calls Tryz.prog 68 #[.int .u64 1,.int .u64 (n:Int)] w fun e w'=>e= .returned (.tuple #[.int .u64 0,.int .u64 (n:Int)])∧w'=w:=fun w=>by
  have h:=Tryz.bits_Mul 1 n (by omega) (by omega) w
  rw[Nat.one_mul,Nat.div_eq_of_lt (by omega),Nat.mod_eq_of_lt (by omega)]at h
  exact h
 have HMUL:=Hd hmul;obtain⟨i0,hi0,hz0,hz1,hz2⟩:=info_parts (show(Tryz.prog.info? 3).map (fun i=>(i.zero,i.size,i.bytes))=some (some (.int .i64 0),1,8)by kernel_rfl)
 obtain⟨ZS,hmk,hZS⟩: ∃ZS:Array Value,(∀w:World,(Instr.makeSlice 87 (.int .i64 (n:Int)) (.int .i64 (n:Int))).run Tryz.prog w= .ok (.slice (some ⟨w.heap.size,0,none⟩) n n) (w.alloc (.cells ZS 3)))∧ZS.size=n:=
  ⟨_,fun w=>run_make w _ _ i0 _ underlying87 hi0 hz0 .i64 .i64 n n (by omega) (Int.le_refl _) (by rw[hz2];omega) (by omega),by rw[size_madeCells,hz1];simp⟩
 have w1:IntKind.u64.wrap (n:Int)=n:=by rw[IntKind.wrap_u64];omega
 have w2:IntKind.i64.wrap (n:Int)=n:=IntWalk.i64_in _ (by omega)
 have q1:(0:Int)≤(n:Int):=by omega
 have q2:¬ ((n:Int)<0):=by omega
 have q3:¬ ((9223372036854775807:Int)<(n:Int)):=by omega
 obtain⟨gl,gn⟩:g<w.heap.size∧True:=⟨World.block_lt_of_cell? w _ hg,trivial⟩;have HMK:=Hd hmk;have HZS:=Hd hZS;have HG:=Hd hg;clear hmul hi0 hz0 hz1 hz2 hmk hZS gn hg;go_enter func42,ntmps42
 go_wp2_with fail
 refine(HMUL.out _).mono ?_;rintro e w3 ⟨rfl,rfl⟩;have hmk:=HMK.out;obtain⟨q,hq⟩: ∃q,w3.heap.size=q:=⟨_,rfl⟩;have S0:RepS (w3.alloc (.cells ZS 3)) q n 0:=⟨⟨ZS,by rw[←hq];exact Blk.new w3 _ _,HZS.out,fun j hj=>absurd hj (Nat.not_lt_zero _)⟩⟩
 obtain⟨w5,hcp,S1,hb5⟩:=S0.copy (k:=1) (a:=⟨g,0,none⟩) (sLen:=1) (sCap:=1) (by rw[Nat.sub_zero];simp[Nat.min_def];omega) (Nat.zero_le _) (fun j hj=>by
  obtain rfl:j=0:=by omega
  exact keep_cell (boxed w3 _) HG.out) n
 have HB:=Hd (hb5 (boxed w3 (.cells ZS 3)) (Nat.le_of_eq hq));have HS:=Hd S1;simp only[Nat.sub_zero]at hcp;have HQ:=Hd (Nat.le_of_eq hq);clear S0 S1 hb5;go_upto_block 0 with fail
 clear hmk hcp;try rw[hq]
 clear hq;go_wp2_with fail
 go_loopw [8] (fun i wx=>∃m:Nat,i= .int .i64 m∧1≤m∧m≤n∧Hid (RepS wx q n m)∧Below w3.heap.size w3 wx) (fun i _=>n-(intOf i).toNat)
 case atStart=>exact⟨1,rfl,Nat.le_refl _,h1,HS,HB.out⟩
 case round=>
  obtain⟨m,rfl,hm1,hmn,HR,hb⟩:=hrel;have HBX:=Hd hb;clear hb;by_cases hlt:m<n
  ·have g1:(m:Int)<(n:Int):=by omega
   have g2:(0:Int)≤(m:Int):=by omega
   have g3:(m:Int)≤(n:Int):=by omega
   have g4:¬ n=m:=by omega
   obtain⟨k,hk⟩: ∃k,Nat.min m (n-m)=k:=⟨_,rfl⟩;have hk1:1≤k∧m+k≤n:=by simp only[Nat.min_def]at hk;split at hk<;>omega
   obtain⟨cs,bb,hcs,hcm⟩:=HR.out.b;have SD:RepS wr.drew q n m:=⟨⟨cs,bb,hcs,hcm⟩⟩;obtain⟨w5,hcp,S1,hb5⟩:=SD.copy (a:=⟨q,0,none⟩) (sLen:=m) (sCap:=n) hk.symm hmn (fun j hj=>by rw[Addr.add_lit,Nat.zero_add];exact Blk.cell_ (w:=wr.drew) bb j _ (hcm j (by simp only[Nat.min_def]at hk;split at hk<;>omega))) (n-m)
   have HS5:=Hd S1;have HB5:=Hd (hb5 (HBX.out.drew) HQ.out);have HK:=Hd hk;clear SD S1 hb5 hk bb hcs hcm HR HBX;go_upto_region 9 with fail
   refine region_sg [7] ?_;refine anyB_sg [0,1,2,3,4,5,6] 3 ?_;go_wp2_with fail
   refine sg_o ?_;refine anyB_on 7 fun K hK=>?_;go_simp;refine lateK hK ?_;clear hK K;clear hcp;have wk:IntKind.i64.wrap ((m:Int)+(k:Int))=((m+k:Nat):Int):=by rw[IntWalk.i64_in _ (by omega)];omega
   refine anyB_sg [8,9] 0 ?_;go_wp2_with fail
   refine sg_o ?_;refine anyB_dn ?_;go_wp2_with fail
   go_roundw
   case rel=>exact⟨m+k,rfl,by omega,hk1.2,HS5,HB5.out⟩
   case measure=>simp[intOf];omega
  ·have g1:(n:Int)≤(m:Int):=by omega
   obtain rfl:m=n:=by omega
   obtain⟨cs,bb,hcs,hcm⟩:=HR.out.b;have HF:=Hd (And.intro bb (And.intro hcs (And.intro hcm (And.intro HQ.out HBX.out))));clear bb hcs hcm HR HBX;go_wp2_with fail
   go_ret;exact⟨q,cs,rfl,HF.out.1,HF.out.2.1,HF.out.2.2.1,HF.out.2.2.2.1,HF.out.2.2.2.2⟩
end Go.Proofs.YtjbnfigpflambacGreatDoor
