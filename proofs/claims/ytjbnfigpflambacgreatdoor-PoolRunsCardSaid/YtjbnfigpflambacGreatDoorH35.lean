/- (strings.Builder).String inside the pool: the text. Conditions: those of each lemma. -/
import Derived.Test.YtjbnfigpflambacGreatDoorH06
import Derived.Test.YtjbnfigpflambacGreatDoorH16
import Derived.Lib.UnsafeStr
namespace Go.Proofs.YtjbnfigpflambacGreatDoor
set_option maxRecDepth 100000
set_option maxHeartbeats 16000000
open _root_.Go.Proofs.Tryz
open Go.ChangeShapes Go.WideShapes Go.ChangeAt Go.RowKit
theorem lies_off{P:Program}{e:TypeId}(hc:P.cellsOf e=1)(count off n:Nat)(hn:off+n≤count):liesAt P P.depth e count off e n=true:=by
 have hd:P.depth=(2*(P.types.size+Made.depth)+1)+1:=rfl;rw[hd];simp only[liesAt,Bool.or_eq_true];left;rw[hd];simp[rowAt,hc,hn,sameLayout,Nat.mod_one]
theorem run_string_off{P:Program}(w:World)(pt it ty e:TypeId)(hp:P.underlying pt=some (.pointer e))(hc:P.cellsOf e=1)(g off cells:Nat)(hsh:w.shape? g=some (e,cells))(l:List UInt8)(h0:l≠[])(hn:off+l.length≤cells)(h63:l.length≤9223372036854775807)
  (hcell: ∀j x,l[j]? =some x→w.cell? ((⟨g,off,none⟩:Addr).add j)=some (.int .u8 x.toNat)):
  (Builtin.unsafeString_ #[pt,it] ty #[.pointer (some ⟨g,off,none⟩),.int .i64 l.length]).run P w= .ok (.string ⟨l.toArray⟩) (w.freeze ⟨g,off,none⟩ l.length):=by
 have hl:l.length≠0:=by simpa using h0
 have hlb:=Lib.run_loadBytes (P:=P) w l ⟨g,off,none⟩ .empty hcell;have hlies:=lies_off (P:=P) hc (cells / P.cellsOf e) off l.length (by rw[hc];simpa using hn)
 have h63':¬ (9223372036854775807:Int)<(l.length:Int):=by omega
 obtain⟨m1,m2,m3,hdef⟩: ∃m1 m2 m3,Builtin.unsafeString_ #[pt,it] ty #[.pointer (some ⟨g,off,none⟩),.int .i64 l.length]=
   (do
    let n←asInt (.int .i64 l.length)
    if n<0 then runtimePanic (.error m1)
    if n>IntKind.i64.max then unsupported (.unsafePointer m2)
    if n=0 then pure (.string .empty)
    else if←variablesAt ⟨g,off,none⟩ (←elemOf pt) n.toNat then do
     let s←loadBytes ⟨g,off,none⟩ .empty n.toNat
     freeze ⟨g,off,none⟩ n.toNat
     pure (.string s)
    else unsupported (.unsafePointer m3)):=⟨_,_,_,rfl⟩
 rw[hdef];have hmax:IntKind.i64.max=9223372036854775807:=rfl;have hneg:¬ (l.length:Int)<0:=by omega
 simp[asInt,asIntOf,hmax,h63',hneg,hl,variablesAt,hsh,elemOf,run_underlying hp,hlies,hlb]
theorem grown_freeze(w:World)(g off n:Nat):w.grownBy (w.freeze ⟨g,off,none⟩ n) (some g):=by
 unfold World.freeze;split
 ·exact World.grownBy.refl _ _
 ·exact⟨rfl,rfl,rfl,by simp,fun k hk hne=>by
   simp only[Array.getElem?_modify];rw[if_neg (fun e=>hne (by rw[←e]))]⟩
theorem run_string_none{P:Program}(w:World)(pt it ty:TypeId)(a:Option Addr):(Builtin.unsafeString_ #[pt,it] ty #[.pointer a,.int .i64 0]).run P w= .ok (.string ⟨#[]⟩) w:=Lib.run_unsafeString_none w pt it ty a
theorem strCells_at(t:ByteArray)(j:Nat)(x:UInt8)(h:t.data.toList[j]? =some x):(Lib.strCells t)[j]? =some (.int .u8 (x.toNat:Int)):=by
 unfold Lib.strCells;simp at h⊢;exact⟨_,h,rfl⟩
theorem byte_cells:Tryz.prog.cellsOf 5=1:=by kernel_rfl
theorem string_runs(w:World)(B:Nat)(v:Value)(t:ByteArray)(ho:OwnO w B 5 1 v t.size (Lib.strCells t)):
  ∃q w1 w2,(∀ts,(Builtin.unsafeSliceData_ ts 147 #[v]).run Tryz.prog w= .ok (.pointer q) w1)∧Below w.heap.size w w1∧
   (∀it ty,(Builtin.unsafeString_ #[147,it] ty #[.pointer q,.int .i64 (t.size:Int)]).run Tryz.prog w1= .ok (.string t) w2)∧w.grownBy w2 v.ownBlock:=by
 have hl:=ho.1;by_cases h0:t.size=0
 ·have ht:t=⟨#[]⟩:=by
   cases t with
   |mk d=>
    have:d.size=0:=h0;rw[Array.size_eq_zero_iff]at this;rw[this]
  subst ht;rcases ho.2 with⟨rfl,_⟩|⟨g,off,cap,cur,rfl,_,hg,_⟩
  ·exact⟨none,w,w,fun ts=>Lib.run_unsafeSliceData_nil _ ts _ _ _,bR,fun it ty=>run_string_none w _ it ty none,World.grownBy.refl _ _⟩
  ·by_cases hc:cap=0
   ·subst hc;refine⟨_,w.alloc (.view ⟨g,off,none⟩ 5),w.alloc (.view ⟨g,off,none⟩ 5),fun ts=>Lib.run_unsafeSliceData_zero w ts _ 5 underlying147 ⟨g,off,none⟩ _ (5,cur.size) (by simp[World.shape?,hg]),boxed _ _,fun it ty=>run_string_none _ _ it ty _,World.grownBy_alloc _ _ _⟩
   ·exact⟨some ⟨g,off,none⟩,w,w,fun ts=>Lib.run_unsafeSliceData_row _ ts _ _ _ _ hc,bR,fun it ty=>run_string_none w _ it ty _,World.grownBy.refl _ _⟩
 ·obtain⟨g,off,cap,e,hc,hcell,_⟩:=ho.pos (by omega)
  rcases ho.2 with⟨_,h1⟩|⟨g',off',cap',cur,e',_,hg,hnc,hcm,hsz,_⟩
  ·exact absurd h1 h0
  rw[e']at e;injection e with e1 e2 e3;injection e1 with e1;injection e1 with e1 e4;subst e1 e3 e4 e';have hlen:t.data.toList.length=t.size:=by simp
  refine⟨some ⟨g',off',none⟩,w,_,fun ts=>Lib.run_unsafeSliceData_row _ ts _ _ _ _ (by omega),bR,fun it ty=>?_,grown_freeze w g' off' t.data.toList.length⟩
  have hr:=run_string_off (P:=Tryz.prog) w 147 it ty 5 underlying147 byte_cells g' off' cur.size (by simp[World.shape?,hg]) t.data.toList (fun e=>h0 (by rw[←hlen,e];rfl)) (by rw[hlen];omega) (by
    rw[hlen];unfold maxLen at hcm;omega) (fun j x hx=>by
    have hj:j<t.size:=by rw[←hlen];exact(List.getElem?_eq_some_iff.1 hx).1
    rw[Addr.add_lit,hcell j (by omega)]
    exact strCells_at t j x hx)
  rw[hlen]at hr;simpa using hr
theorem string_any(w:World)(B p c:Nat)(_hc:c<6)(v:Value)(t:ByteArray)(hx:w.cell? ⟨p,6+c*10+9,none⟩=some v)(ho:OwnO w B 5 1 v t.size (Lib.strCells t)):
  Calls Tryz.prog 47 #[.pointer (some ⟨p,6+c*10+8,none⟩)] w fun e w'=>e= .returned (.string t)∧w.grownBy w' v.ownBlock:=by
 obtain⟨q,w1,w2,h1,b1,h2,g2⟩:=string_runs w.drew B v t (ho.below bR.drew);obtain⟨A,k,e,_⟩:=ho.form;subst e;obtain⟨n,hn⟩: ∃n,t.size=n:=⟨_,rfl⟩;rw[hn]at hx h1 h2;have HG:=Hd (show w.grownBy w2 (Value.slice A t.size k).ownBlock from⟨g2.os,g2.tape,g2.output,g2.size,g2.block⟩);have HB:=Hd b1;clear ho b1 g2 hn;go_enter func47,ntmps47
 go_upto_region 1 with fail
 refine region_sg [10] ?_;refine anyB_sg [0,1,2,3,5,6,7,8,9] 3 ?_;go_wp2_with fail
 refine sg_o ?_;refine anyB_on 4 fun K hK=>?_;go_simp;refine thK hK HB.out ?_;clear hK K;refine anyB_on 10 fun K hK=>?_;go_simp;refine lateK hK ?_;clear hK K;refine anyB_sg [11] 0 ?_;go_wp2_with fail
 refine sg_o ?_;refine anyB_dn ?_;go_wp2_with fail
 go_ret;exact⟨rfl,HG.out⟩
end Go.Proofs.YtjbnfigpflambacGreatDoor
