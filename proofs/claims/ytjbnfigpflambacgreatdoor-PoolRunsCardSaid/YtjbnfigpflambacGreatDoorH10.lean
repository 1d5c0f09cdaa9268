/- say.Name and the reference's NameMay. say.Check. say.Tell and the reference's ToldOf. Reference's ToldOf: what it returns. Append of a string's bytes onto a slice of the call's own. say.Pack and say.Unpack, and what the reference says. say.Unpack and the reference's UnpackedOf. pool.Run where it turns its input down. Conditions: those of each lemma. -/
import Derived.Test.YtjbnfigpflambacGreatDoorH00
import Derived.Lib.ConvBytes
import Derived.Lib.AppendStr
import Derived.Deep.QuietTactic
import Derived.BigQuiet
namespace Go.Proofs.YtjbnfigpflambacGreatDoor
set_option maxRecDepth 100000
set_option maxHeartbeats 16000000
open _root_.Go.Proofs.Tryz
open Go.ChangeShapes Go.WideShapes Go.ChangeAt Go.RowKit
theorem name1_any(c:UInt8)(w:World):Calls Tryz.prog 121 #[.int .u8 (c.toNat:Int)] w fun e w'=>e= .returned (.bool (!lowC c))∧w=w':=by
 unfold lowC;by_cases h1:c.toNat<97
 ·have d:decide (97≤c.toNat)=false:=by simpa using h1
  have g:(c.toNat:Int)<97:=by omega
  go_enter func121,ntmps121
  go_wp2
  go_ret;exact⟨by simp[d],rfl⟩
 ·have d:decide (97≤c.toNat)=true:=by simpa using h1
  by_cases h2:122<c.toNat
  ·have d2:decide (c.toNat≤122)=false:=by simpa using h2
   have g:122<(c.toNat:Int):=by omega
   have g':¬ (c.toNat:Int)<97:=by omega
   go_enter func121,ntmps121
   go_wp2
   go_ret;exact⟨by simp,rfl⟩
  ·have d2:decide (c.toNat≤122)=true:=by simpa using h2
   have g:¬ 122<(c.toNat:Int):=by omega
   have g':¬ (c.toNat:Int)<97:=by omega
   go_enter func121,ntmps121
   go_wp2
   go_ret;exact⟨by simp,rfl⟩
def firstOf(p:UInt8→Bool)(l:List UInt8):Int:=match l.findIdx? p with|some i=>(i:Int)|none=>-1
theorem firstOf_at{p:UInt8→Bool}{l:List UInt8}{k:Nat}(hk:k<l.length)(hb: ∀j,(h:j<l.length)→j<k→p l[j]=false)(hp:p l[k]=true):firstOf p l=k:=by
 have h:l.findIdx? p=some k:=by
  rw[List.findIdx?_eq_some_iff_getElem];exact⟨hk,hp,fun j hj=>by rw[hb j (by omega) hj];simp⟩
 simp[firstOf,h]
theorem firstOf_no{p:UInt8→Bool}{l:List UInt8}(hb: ∀j,(h:j<l.length)→p l[j]=false):firstOf p l= -1:=by
 have h:l.findIdx? p=none:=by
  rw[List.findIdx?_eq_none_iff];intro x hx;obtain⟨j,hj,rfl⟩:=List.getElem_of_mem hx;exact hb j hj
 simp[firstOf,h]
theorem firstOf_nonneg{p:UInt8→Bool}{l:List UInt8}:decide (0≤firstOf p l)=l.any p:=by
 unfold firstOf;cases h:l.findIdx? p with
 |none=>
  rw[List.findIdx?_eq_none_iff]at h;simp;intro x hx;rw[h x hx]
 |some i=>
  rw[List.findIdx?_eq_some_iff_getElem]at h;obtain⟨hi,hp,_⟩:=h;simp;exact⟨_,List.getElem_mem hi,hp⟩
theorem snoc_no{p:UInt8→Bool}{l:List UInt8}{k:Nat}(hb: ∀j,(h:j<l.length)→j<k→p l[j]=false)(hk:k<l.length)(hp:p l[k]=false): ∀j,(h:j<l.length)→j<k+1→p l[j]=false:=by
 intro j h hj;rcases Nat.lt_or_ge j k with h1|h1
 ·exact hb j h h1
 ·obtain rfl:j=k:=by omega
  exact hp
def NoneBefore(p:UInt8→Bool)(l:List UInt8)(k:Nat):Prop:=∀j,(h:j<l.length)→j<k→p l[j]=false
theorem indexFunc_any(f:Nat)(p:UInt8→Bool)(hcf: ∀(c:Int) (w:World),(callFunc f #[.int .u8 c]).run Tryz.prog w= .ok (.enter f #[.int .u8 c]) w)
  (hf: ∀(c:UInt8) (w:World),Calls Tryz.prog f #[.int .u8 (c.toNat:Int)] w fun e w'=>e= .returned (.bool (p c))∧w=w')
  (l:List UInt8) (b cap:Nat) (w:World) (hl:l.length≤1000) (hc: ∀i,(h:i<l.length)→w.cell? ⟨b,i,none⟩=some (.int .u8 (l[i].toNat:Int))):
  Calls Tryz.prog 142 #[.slice (some ⟨b,0,none⟩) l.length cap,.func (.func f) #[] #[]] w fun e w'=>e= .returned (.int .i64 (firstOf p l))∧w=w':=by
 have HF:=Hd hf;have HC:=Hd hc;clear hf hc;go_enter func142,ntmps142
 go_wp2_with fail
 go_loop [8] (fun i=>∃k:Nat,k≤l.length∧i= .int .i64 k∧NoneBefore p l k) (fun i=>l.length-(intOf i).toNat)
 case atStart=>exact⟨0,Nat.zero_le _,rfl,fun j _ hj=>absurd hj (by omega)⟩
 case round=>
  obtain⟨k,hk,rfl,hn⟩:=hrel;by_cases hlt:k<l.length
  ·have hcell:=HC.out k hlt;obtain⟨c,ec⟩: ∃c,l[k]'hlt=c:=⟨_,rfl⟩;rw[ec]at hcell;have EC:=Hd ec;clear ec;cases hp:p c with
   |true=>
    have HN:firstOf p l=k:=firstOf_at hlt hn (by rw[EC.out];exact hp)
    have HN':=Hd HN;have HP:=Hd hp;clear HN hp hn;go_wp2_with fail
    refine(HF.out c _).mono ?_;rintro e w' ⟨rfl,rfl⟩;have hp:=HP.out;go_wp2_with fail
    go_ret;exact⟨by rw[HN'.out];simp,rfl⟩
   |false=>
    have HN:NoneBefore p l (k+1):=snoc_no hn hlt (by rw[EC.out];exact hp)
    have HN':=Hd HN;have HP:=Hd hp;clear HN hp hn;go_wp2_with fail
    refine(HF.out c _).mono ?_;rintro e w' ⟨rfl,rfl⟩;have hp:=HP.out;go_wp2_with fail
    go_round
    case rel=>exact⟨k+1,by omega,by go_num,HN'.out⟩
    case measure=>simp[intOf];omega
  ·have HN:firstOf p l= -1:=firstOf_no fun j h=>hn j h (by omega)
   have HN':=Hd HN;clear HN hn;go_wp2_with fail
   go_ret;exact⟨by rw[HN'.out];simp,rfl⟩
theorem containsFunc_any(f:Nat)(p:UInt8→Bool)(hcf: ∀(c:Int) (w:World),(callFunc f #[.int .u8 c]).run Tryz.prog w= .ok (.enter f #[.int .u8 c]) w)
  (hf: ∀(c:UInt8) (w:World),Calls Tryz.prog f #[.int .u8 (c.toNat:Int)] w fun e w'=>e= .returned (.bool (p c))∧w=w')
  (l:List UInt8) (b cap:Nat) (w:World) (hl:l.length≤1000) (hc: ∀i,(h:i<l.length)→w.cell? ⟨b,i,none⟩=some (.int .u8 (l[i].toNat:Int))):
  Calls Tryz.prog 120 #[.slice (some ⟨b,0,none⟩) l.length cap,.func (.func f) #[] #[]] w fun e w'=>e= .returned (.bool (l.any p))∧w=w':=by
 have HF:=Hd hf;have HC:=Hd hc;have HCF:=Hd hcf;clear hf hc hcf;go_enter func120,ntmps120
 go_wp2_with fail
 refine(indexFunc_any f p HCF.out HF.out l b cap _ hl HC.out).mono ?_;rintro e w' ⟨rfl,rfl⟩;go_wp2_with fail
 go_ret;exact⟨by simp[←firstOf_nonneg],rfl⟩
theorem call1(c:Int)(w:World):(callFunc 121 #[.int .u8 c]).run Tryz.prog w= .ok (.enter 121 #[.int .u8 c]) w:=by
 go_simp
theorem bytes_below(w:World)(s:ByteArray):Below w.heap.size w (Lib.bytesWorld w 5 s):=
 ⟨rfl,rfl,rfl,by rw[Lib.bytesWorld_size];omega,fun k hk=>Lib.bytesWorld_at_old w _ s k hk⟩
theorem name_any(s:ByteArray)(w:World)(hm:s.size≤maxLen):Calls Tryz.prog 92 #[.string s] w fun e w'=>e= .returned (.bool (nameB s))∧Below w.heap.size w w':=by
 unfold maxLen at hm;by_cases h0:s.toList=[]
 ·have hz:=size_of_nil h0;have e:nameB s=false:=by unfold nameB;rw[hz];simp
  have hi:s.toList.isEmpty=true:=by simp[h0]
  rw[e];clear e;go_enter func92,ntmps92
  go_wp2
  go_ret;exact⟨rfl,bR⟩
 ·have hi:s.toList.isEmpty=false:=by simpa using h0
  by_cases h8:8<s.size
  ·have e:nameB s=false:=by unfold nameB;simp;omega
   have hd:decide ((s.size:Int)≤8)=false:=by simp;omega
   rw[e];clear e;go_enter func92,ntmps92
   go_wp2
   go_ret;exact⟨rfl,bR⟩
  ·have hd:decide ((s.size:Int)≤8)=true:=by simp;omega
   have hcv:=fun(w:World)=>Lib.run_convert_string_bytes (P:=Tryz.prog) w 9 94 5 s underlying9 underlying94 underlying5;have hl:s.data.toList.length=s.size:=by simp
   have hz:1≤s.size:=by
    rcases Nat.eq_zero_or_pos s.size with h|h
    ·refine absurd ?_ h0;rw[toList_data];exact List.eq_nil_of_length_eq_zero (by rw[hl,h])
    ·exact h
   have e:nameB s=!s.data.toList.any fun c=>!lowC c:=by
    unfold nameB;rw[List.all_eq_not_any_not];simp only[decide_eq_true (show 1≤s.size from hz),decide_eq_true (show s.size≤8 by omega),Bool.true_and]
   rw[e];have H:=containsFunc_any 121 (fun c=>!lowC c) call1 name1_any s.data.toList w.heap.size (grownCap w s.size 0 5) (Lib.bytesWorld w 5 s) (by rw[hl];omega) (fun i h=>by
    rw[Lib.bytesWorld_cell w _ s i (by rw[←hl];exact h)]
    have hi:i<s.data.size:=by simpa using h
    simp[List.getD,Array.getElem?_eq_getElem hi])
   rw[hl]at H;have H':=Hd H;clear H e hl h0;go_enter func92,ntmps92
   go_wp2_with fail
   refine H'.out.mono ?_;rintro e w' ⟨rfl,rfl⟩;go_wp2_with fail
   go_ret;exact⟨by simp,bytes_below w s⟩
theorem value1_any(c:UInt8)(w:World):Calls Tryz.prog 122 #[.int .u8 (c.toNat:Int)] w fun e w'=>e= .returned (.bool (!seenC c))∧w=w':=by
 unfold seenC;by_cases h1:c.toNat≤32
 ·have d:decide (33≤c.toNat)=false:=by simp;omega
  have g:(c.toNat:Int)≤32:=by omega
  go_enter func122,ntmps122
  go_wp2
  go_ret;exact⟨by simp[d],rfl⟩
 ·have d:decide (33≤c.toNat)=true:=by simp;omega
  by_cases h2:126<c.toNat
  ·have d2:decide (c.toNat≤126)=false:=by simpa using h2
   have g:126<(c.toNat:Int):=by omega
   have g':¬ (c.toNat:Int)≤32:=by omega
   go_enter func122,ntmps122
   go_wp2
   go_ret;exact⟨by simp,rfl⟩
  ·have d2:decide (c.toNat≤126)=true:=by simpa using h2
   have g:¬ 126<(c.toNat:Int):=by omega
   have g':¬ (c.toNat:Int)≤32:=by omega
   go_enter func122,ntmps122
   go_wp2
   go_ret;exact⟨by simp,rfl⟩
theorem call2(c:Int)(w:World):(callFunc 122 #[.int .u8 c]).run Tryz.prog w= .ok (.enter 122 #[.int .u8 c]) w:=by
 go_simp
theorem value_any(s:ByteArray)(w:World)(hm:s.size≤maxLen):Calls Tryz.prog 93 #[.string s] w fun e w'=>e= .returned (.bool (valueB s))∧Below w.heap.size w w':=by
 unfold maxLen at hm;by_cases h0:s.toList=[]
 ·have hz:=size_of_nil h0;have e:valueB s=false:=by unfold valueB;rw[hz];simp
  have hi:s.toList.isEmpty=true:=by simp[h0]
  rw[e];clear e;go_enter func93,ntmps93
  go_wp2
  go_ret;exact⟨rfl,bR⟩
 ·have hi:s.toList.isEmpty=false:=by simpa using h0
  by_cases h20:20<s.size
  ·have e:valueB s=false:=by unfold valueB;simp;omega
   have hd:decide ((s.size:Int)≤20)=false:=by simp;omega
   rw[e];clear e;go_enter func93,ntmps93
   go_wp2
   go_ret;exact⟨rfl,bR⟩
  ·have hd:decide ((s.size:Int)≤20)=true:=by simp;omega
   have hcv:=fun(w:World)=>Lib.run_convert_string_bytes (P:=Tryz.prog) w 9 94 5 s underlying9 underlying94 underlying5;have hl:s.data.toList.length=s.size:=by simp
   have hz:1≤s.size:=by
    rcases Nat.eq_zero_or_pos s.size with h|h
    ·refine absurd ?_ h0;rw[toList_data];exact List.eq_nil_of_length_eq_zero (by rw[hl,h])
    ·exact h
   have e:valueB s=!s.data.toList.any fun c=>!seenC c:=by
    unfold valueB;rw[List.all_eq_not_any_not];simp only[decide_eq_true (show 1≤s.size from hz),decide_eq_true (show s.size≤20 by omega),Bool.true_and]
   rw[e];have H:=containsFunc_any 122 (fun c=>!seenC c) call2 value1_any s.data.toList w.heap.size (grownCap w s.size 0 5) (Lib.bytesWorld w 5 s) (by rw[hl];omega) (fun i h=>by
    rw[Lib.bytesWorld_cell w _ s i (by rw[←hl];exact h)]
    have hi:i<s.data.size:=by simpa using h
    simp[List.getD,Array.getElem?_eq_getElem hi])
   rw[hl]at H;have H':=Hd H;clear H e hl h0;go_enter func93,ntmps93
   go_wp2_with fail
   refine H'.out.mono ?_;rintro e w' ⟨rfl,rfl⟩;go_wp2_with fail
   go_ret;exact⟨by simp,bytes_below w s⟩
def LowBefore(s:ByteArray)(k:Nat):Prop:=∀j,(h:j<s.size)→j<k→lowC s[j]=true
theorem all_low{s:ByteArray}:s.data.toList.all lowC=true↔LowBefore s s.size:=by
 rw[List.all_eq_true];constructor
 ·intro h j hj _;have hj':j<s.data.toList.length:=by simpa using hj
  have hm:=h _ (List.getElem_mem hj');simp only[Array.getElem_toList]at hm;exact hm
 ·intro h x hx;obtain⟨j,hj,rfl⟩:=List.getElem_of_mem hx;have hj':j<s.size:=by simpa using hj
  exact h j hj' hj'
theorem nameMay_any(s:ByteArray)(w:World)(hm:s.size≤maxLen):Calls Tryz.prog 109 #[.string s] w fun e w'=>e= .returned (.bool (nameB s))∧w=w':=by
 unfold maxLen at hm;go_enter func109,ntmps109
 go_wp2_with fail
 go_loop [3] (fun i=>∃k:Nat,k≤s.size∧i= .int .i64 k∧LowBefore s k) (fun i=>s.size-(intOf i).toNat)
 case atStart=>exact⟨0,Nat.zero_le _,rfl,fun j _ hj=>absurd hj (by omega)⟩
 case round=>
  obtain⟨k,hk,rfl,hn⟩:=hrel;by_cases hlt:k<s.size
  ·obtain⟨c,ec⟩: ∃c,s[k]'hlt=c:=⟨_,rfl⟩;have EC:=Hd ec;clear ec;have hc:=c.toNat_lt;have hlc:lowC c=(decide (97≤c.toNat)&&decide (c.toNat≤122)):=rfl;cases hp:lowC c with
   |true=>
    have HN:LowBefore s (k+1):=by
     intro j h hj;rcases Nat.lt_or_ge j k with h1|h1
     ·exact hn j h h1
     ·obtain rfl:j=k:=by omega
      rw[EC.out];exact hp
    rw[hlc]at hp;simp only[Bool.and_eq_true,decide_eq_true_eq]at hp;obtain⟨g1,g2⟩:=hp;have HN':=Hd HN;clear HN hn hlc;have hek:=EC.out;go_wp2_with fail
    refine(in_yes _ _ _ _ (by omega) (by omega)).mono ?_
    rintro e w' ⟨rfl,rfl⟩;clear hek;go_wp2_with fail
    go_round
    case rel=>exact⟨k+1,by omega,by go_num,HN'.out⟩
    case measure=>simp[intOf];omega
   |false=>
    have HB:nameB s=false:=by
     unfold nameB;cases ha:s.data.toList.all lowC with
     |false=>simp
     |true=>
      have:=all_low.1 ha k hlt hlt;rw[EC.out,hp]at this;cases this
    rw[hlc]at hp;simp only[Bool.and_eq_false_iff,decide_eq_false_iff_not,Nat.not_le]at hp;have HB':=Hd HB;have HP:=Hd hp;clear HB hn hlc hp;have hek:=EC.out;go_wp2_with fail
    refine(in_no _ _ _ _ (by have:=HP.out;omega)).mono ?_
    rintro e w' ⟨rfl,rfl⟩;clear hek;go_wp2_with fail
    go_ret;exact⟨by rw[HB'.out];simp,rfl⟩
  ·obtain rfl:k=s.size:=by omega
   have ha:=all_low.2 hn;have HB:nameB s=(decide (1≤s.size)&&decide (s.size≤8)):=by unfold nameB;rw[ha];simp
   have HB':=Hd HB;clear HB ha hn;by_cases hy:1≤s.size∧s.size≤8
   ·obtain⟨y1,y2⟩:=hy;go_wp2_with fail
    refine(in_yes _ _ _ _ (by omega) (by omega)).mono ?_
    rintro e w' ⟨rfl,rfl⟩;go_wp2_with fail
    go_ret;exact⟨by rw[HB'.out];simp;omega,rfl⟩
   ·have HY:=Hd hy;clear hy;go_wp2_with fail
    refine(in_no _ _ _ _ (by have:=HY.out;omega)).mono ?_
    rintro e w' ⟨rfl,rfl⟩;go_wp2_with fail
    go_ret;exact⟨by rw[HB'.out];have:=HY.out;simp;omega,rfl⟩
def SeenBefore(s:ByteArray)(k:Nat):Prop:=∀j,(h:j<s.size)→j<k→seenC s[j]=true
theorem all_seen{s:ByteArray}:s.data.toList.all seenC=true↔SeenBefore s s.size:=by
 rw[List.all_eq_true];constructor
 ·intro h j hj _;have hj':j<s.data.toList.length:=by simpa using hj
  have hm:=h _ (List.getElem_mem hj');simp only[Array.getElem_toList]at hm;exact hm
 ·intro h x hx;obtain⟨j,hj,rfl⟩:=List.getElem_of_mem hx;have hj':j<s.size:=by simpa using hj
  exact h j hj' hj'
theorem valueMay_any(s:ByteArray)(w:World)(hm:s.size≤maxLen):Calls Tryz.prog 110 #[.string s] w fun e w'=>e= .returned (.bool (valueB s))∧w=w':=by
 unfold maxLen at hm;go_enter func110,ntmps110
 go_wp2_with fail
 go_loop [3] (fun i=>∃k:Nat,k≤s.size∧i= .int .i64 k∧SeenBefore s k) (fun i=>s.size-(intOf i).toNat)
 case atStart=>exact⟨0,Nat.zero_le _,rfl,fun j _ hj=>absurd hj (by omega)⟩
 case round=>
  obtain⟨k,hk,rfl,hn⟩:=hrel;by_cases hlt:k<s.size
  ·obtain⟨c,ec⟩: ∃c,s[k]'hlt=c:=⟨_,rfl⟩;have EC:=Hd ec;clear ec;have hc:=c.toNat_lt;have hlc:seenC c=(decide (33≤c.toNat)&&decide (c.toNat≤126)):=rfl;cases hp:seenC c with
   |true=>
    have HN:SeenBefore s (k+1):=by
     intro j h hj;rcases Nat.lt_or_ge j k with h1|h1
     ·exact hn j h h1
     ·obtain rfl:j=k:=by omega
      rw[EC.out];exact hp
    rw[hlc]at hp;simp only[Bool.and_eq_true,decide_eq_true_eq]at hp;obtain⟨g1,g2⟩:=hp;have HN':=Hd HN;clear HN hn hlc;have hek:=EC.out;go_wp2_with fail
    refine(in_yes _ _ _ _ (by omega) (by omega)).mono ?_
    rintro e w' ⟨rfl,rfl⟩;clear hek;go_wp2_with fail
    go_round
    case rel=>exact⟨k+1,by omega,by go_num,HN'.out⟩
    case measure=>simp[intOf];omega
   |false=>
    have HB:valueB s=false:=by
     unfold valueB;cases ha:s.data.toList.all seenC with
     |false=>simp
     |true=>
      have:=all_seen.1 ha k hlt hlt;rw[EC.out,hp]at this;cases this
    rw[hlc]at hp;simp only[Bool.and_eq_false_iff,decide_eq_false_iff_not,Nat.not_le]at hp;have HB':=Hd HB;have HP:=Hd hp;clear HB hn hlc hp;have hek:=EC.out;go_wp2_with fail
    refine(in_no _ _ _ _ (by have:=HP.out;omega)).mono ?_
    rintro e w' ⟨rfl,rfl⟩;clear hek;go_wp2_with fail
    go_ret;exact⟨by rw[HB'.out];simp,rfl⟩
  ·obtain rfl:k=s.size:=by omega
   have ha:=all_seen.2 hn;have HB:valueB s=(decide (1≤s.size)&&decide (s.size≤20)):=by unfold valueB;rw[ha];simp
   have HB':=Hd HB;clear HB ha hn;by_cases hy:1≤s.size∧s.size≤20
   ·obtain⟨y1,y2⟩:=hy;go_wp2_with fail
    refine(in_yes _ _ _ _ (by omega) (by omega)).mono ?_
    rintro e w' ⟨rfl,rfl⟩;go_wp2_with fail
    go_ret;exact⟨by rw[HB'.out];simp;omega,rfl⟩
   ·have HY:=Hd hy;clear hy;go_wp2_with fail
    refine(in_no _ _ _ _ (by have:=HY.out;omega)).mono ?_
    rintro e w' ⟨rfl,rfl⟩;go_wp2_with fail
    go_ret;exact⟨by rw[HB'.out];have:=HY.out;simp;omega,rfl⟩
def St.v(s:St):Value:=.agg #[.int .i64 s.k,.string s.key,.string s.val]
def ReadOk(f:Nat)(t:ByteArray):Prop:=∀w:World,Tabs w→Calls Tryz.prog f #[.string t] w fun e w'=>e= .returned (.tuple #[(readS t).v,.int .i64 (readE t)])∧Below w.heap.size w w'
theorem nameB_ne{s:ByteArray}(h:nameB s=true):s.toList.isEmpty=false:=by
 rw[toList_data];unfold nameB at h;simp only[Bool.and_eq_true,decide_eq_true_eq]at h;cases e:s.data.toList with
 |nil=>
  have:s.size=0:=by simpa using congrArg List.length e
  omega
 |cons a l=>rfl
theorem valueB_ne{s:ByteArray}(h:valueB s=true):s.toList.isEmpty=false:=by
 rw[toList_data];unfold valueB at h;simp only[Bool.and_eq_true,decide_eq_true_eq]at h;cases e:s.data.toList with
 |nil=>
  have:s.size=0:=by simpa using congrArg List.length e
  omega
 |cons a l=>rfl
section
variable (k:Int)(key val:ByteArray)(w:World)
theorem check_kind(h:k<1∨11<k):
  Calls Tryz.prog 63 #[.agg #[.int .i64 k,.string key,.string val]] w fun e w'=>e= .returned (.int .i64 3)∧Below w.heap.size w w':=by
 by_cases h1:k<1
 ·go_enter func63,ntmps63
  go_wp2_with fail
  go_ret;exact⟨rfl,boxed _ _⟩
 ·have h2:11<k:=by omega
  clear h;go_enter func63,ntmps63
  go_wp2_with fail
  go_ret;exact⟨rfl,boxed _ _⟩
theorem check_low(h1:1≤k)(h2:k≤5):
  Calls Tryz.prog 63 #[.agg #[.int .i64 k,.string key,.string val]] w fun e w'=>e= .returned (.int .i64 (if isE key&&isE val then 0 else 4))∧Below w.heap.size w w':=by
 have d1:decide (6≤k)=false:=by simp;omega
 have d2:decide (9≤k)=false:=by simp;omega
 have d3:(k==9)=false:=by simp;omega
 have d4:(k==10)=false:=by simp;omega
 have d5:(k==11)=false:=by simp;omega
 unfold isE;cases e1:key.toList.isEmpty<;>cases e2:val.toList.isEmpty;all_goals
  have f1:=e1;have f2:=e2;simp only[List.isEmpty_iff,List.isEmpty_eq_false_iff]at f1 f2;go_enter func63,ntmps63
  go_wp2_with fail
  go_ret;exact⟨by simp,boxed _ _⟩
theorem check_mid(h1:6≤k)(h2:k≤8)(hm:key.size≤maxLen):
  Calls Tryz.prog 63 #[.agg #[.int .i64 k,.string key,.string val]] w fun e w'=>e= .returned (.int .i64 (if !nameB key then 4 else if isE val then 0 else 4))∧Below w.heap.size w w':=by
 have d1:decide (6≤k)=true:=by simp;omega
 have d2:decide (9≤k)=false:=by simp;omega
 have d3:(k==9)=false:=by simp;omega
 have d4:(k==10)=false:=by simp;omega
 have d5:(k==11)=false:=by simp;omega
 cases e1:key.toList.isEmpty with
 |true=>
  have hn:nameB key=false:=by
   cases h:nameB key with
   |false=>rfl
   |true=>rw[nameB_ne h]at e1;cases e1
  have f1:=e1;simp only[List.isEmpty_iff]at f1;rw[hn];clear hn;go_enter func63,ntmps63
  go_wp2_with fail
  go_ret;exact⟨by simp,boxed _ _⟩
 |false=>
  have f1:=e1;simp only[List.isEmpty_eq_false_iff]at f1;unfold isE;cases e2:val.toList.isEmpty with
  |false=>
   have f2:=e2;simp only[List.isEmpty_eq_false_iff]at f2;simp only[Bool.false_eq_true,if_false,ite_self];go_enter func63,ntmps63
   go_wp2_with fail
   go_ret;exact⟨by simp,boxed _ _⟩
  |true=>
   have f2:=e2;simp only[List.isEmpty_iff]at f2;cases hn:nameB key;all_goals
    have HN:=Hd hn;clear hn;go_enter func63,ntmps63
    go_wp2_with fail
    refine(name_any key _ hm).mono ?_;rintro e w1 ⟨rfl,hb1⟩;have c0:=box_cell hb1 0;have c1:=box_cell hb1 1;have c2:=box_cell hb1 2;have hb:=below_of_alloc leR hb1;clear hb1;rw[HN.out];go_wp2_with fail
    go_ret;exact⟨by simp,hb⟩
theorem check_set(h:k=9∨k=10)(hm:key.size≤maxLen)(hm2:val.size≤maxLen):
  Calls Tryz.prog 63 #[.agg #[.int .i64 k,.string key,.string val]] w fun e w'=>e= .returned (.int .i64 (if !nameB key then 4 else if valueB val then 0 else 4))∧Below w.heap.size w w':=by
 cases e1:key.toList.isEmpty with
 |true=>
  have hn:nameB key=false:=by
   cases h:nameB key with
   |false=>rfl
   |true=>rw[nameB_ne h]at e1;cases e1
  have f1:=e1;simp only[List.isEmpty_iff]at f1;rw[hn];clear hn;rcases h with rfl|rfl;all_goals
   go_enter func63,ntmps63
   go_wp2_with fail
   go_ret;exact⟨by simp,boxed _ _⟩
 |false=>
  have f1:=e1;simp only[List.isEmpty_eq_false_iff]at f1;cases e2:val.toList.isEmpty with
  |true=>
   have hv:valueB val=false:=by
    cases h:valueB val with
    |false=>rfl
    |true=>rw[valueB_ne h]at e2;cases e2
   have f2:=e2;simp only[List.isEmpty_iff]at f2;rw[hv];clear hv;simp only[Bool.false_eq_true,if_false,ite_self];rcases h with rfl|rfl;all_goals
    go_enter func63,ntmps63
    go_wp2_with fail
    go_ret;exact⟨by simp,boxed _ _⟩
  |false=>
   have f2:=e2;simp only[List.isEmpty_eq_false_iff]at f2;cases hn:nameB key with
   |false=>
    have HN:=Hd hn;clear hn;rcases h with rfl|rfl;all_goals
     go_enter func63,ntmps63
     go_wp2_with fail
     refine(name_any key _ hm).mono ?_;rintro e w1 ⟨rfl,hb1⟩;have hb:=below_of_alloc leR hb1;clear hb1;rw[HN.out];go_wp2_with fail
     go_ret;exact⟨by simp,hb⟩
   |true=>
    have HN:=Hd hn;clear hn;cases hv:valueB val;all_goals
     have HV:=Hd hv;clear hv;rcases h with rfl|rfl
    all_goals
     go_enter func63,ntmps63
     go_wp2_with fail
     refine(name_any key _ hm).mono ?_;rintro e w1 ⟨rfl,hb1⟩;have c0:=box_cell hb1 0;have c1:=box_cell hb1 1;have c2:=box_cell hb1 2;have hb:=below_of_alloc leR hb1;clear hb1;rw[HN.out];go_wp2_with fail
     refine(value_any val _ hm2).mono ?_;rintro e w2 ⟨rfl,hb2⟩;replace c0:=keep_cell hb2 c0
     replace c1:=keep_cell hb2 c1
     replace c2:=keep_cell hb2 c2
     replace hb:=below_step hb leR hb2
     clear hb2;rw[HV.out];go_wp2_with fail
     go_ret;exact⟨by simp,hb⟩
theorem check_prep(hT:Tabs w)(hm:key.size≤maxLen)(hr:ReadOk 79 val):
  Calls Tryz.prog 63 #[.agg #[.int .i64 11,.string key,.string val]] w fun e w'=>e= .returned (.int .i64 (if nameB key&&prepB val then 0 else 4))∧Below w.heap.size w w':=by
 have HR:=Hd hr;have HT:=Hd hT;clear hr hT;cases e1:key.toList.isEmpty with
 |true=>
  have hn:nameB key=false:=by
   cases h:nameB key with
   |false=>rfl
   |true=>rw[nameB_ne h]at e1;cases e1
  have f1:=e1;simp only[List.isEmpty_iff]at f1;rw[hn];clear hn;go_enter func63,ntmps63
  go_wp2_with fail
  go_ret;exact⟨by simp,boxed _ _⟩
 |false=>
  have f1:=e1;simp only[List.isEmpty_eq_false_iff]at f1;cases e2:val.toList.isEmpty with
  |true=>
   have hv:prepB val=false:=by
    rw[prep_read];have:val=⟨#[]⟩:=str_inj (by rw[List.isEmpty_iff]at e2;rw[e2,toList_data])
    subst this;decide+kernel
   have f2:=e2;simp only[List.isEmpty_iff]at f2;rw[hv,Bool.and_false];clear hv;go_enter func63,ntmps63
   go_wp2_with fail
   go_ret;exact⟨by simp,boxed _ _⟩
  |false=>
   have f2:=e2;simp only[List.isEmpty_eq_false_iff]at f2;cases hn:nameB key with
   |false=>
    have HN:=Hd hn;clear hn;rw[Bool.false_and];go_enter func63,ntmps63
    go_wp2_with fail
    refine(name_any key _ hm).mono ?_;rintro e w1 ⟨rfl,hb1⟩;have hb:=below_of_alloc leR hb1;clear hb1;rw[HN.out];go_wp2_with fail
    go_ret;exact⟨by simp,hb⟩
   |true=>
    have HN:=Hd hn;clear hn;rw[Bool.true_and,prep_read];cases h0:decide (readE val=0)with
    |false=>
     have g0:(readE val !=0)=true:=by simpa using h0
     rw[Bool.false_and];have G:=Hd h0;clear h0;go_enter func63,ntmps63
     go_wp2_with fail
     refine(name_any key _ hm).mono ?_;rintro e w1 ⟨rfl,hb1⟩;have c0:=box_cell hb1 0;have c1:=box_cell hb1 1;have c2:=box_cell hb1 2;have hb:=below_of_alloc leR hb1;clear hb1;rw[HN.out];go_wp2_with fail
     refine(HR.out _ (HT.out.below hb)).mono ?_;rintro e w2 ⟨rfl,hb2⟩;replace hb:=below_step hb leR hb2
     clear hb2;unfold St.v;go_wp2_with fail
     go_ret;exact⟨by simp,hb.alloc hb.size _⟩
    |true=>
     have g0:(readE val !=0)=false:=by simpa using h0
     rw[Bool.true_and];have G:=Hd h0;clear h0;obtain⟨rk,hrk⟩: ∃rk,(readS val).k=rk:=⟨_,rfl⟩;rw[hrk];have RK:=Hd hrk;clear hrk;by_cases h6:rk=6
     ·have b6:(rk !=6)=false:=by simp[h6]
      simp only[h6,decide_true,Bool.true_or,if_true];clear h6;go_enter func63,ntmps63
      go_wp2_with fail
      refine(name_any key _ hm).mono ?_;rintro e w1 ⟨rfl,hb1⟩;have c0:=box_cell hb1 0;have c1:=box_cell hb1 1;have c2:=box_cell hb1 2;have hb:=below_of_alloc leR hb1;clear hb1;rw[HN.out];go_wp2_with fail
      refine(HR.out _ (HT.out.below hb)).mono ?_;rintro e w2 ⟨rfl,hb2⟩;replace hb:=below_step hb leR hb2
      clear hb2;unfold St.v;rw[RK.out];go_wp2_with fail
      go_ret;exact⟨by simp,hb.alloc hb.size _⟩
     have b6:(rk !=6)=true:=by simp[h6]
     by_cases h7:rk=7
     ·have b7:(rk !=7)=false:=by simp[h7]
      simp only[h7,decide_true,Bool.true_or,Bool.or_true,if_true];clear h6 h7;go_enter func63,ntmps63
      go_wp2_with fail
      refine(name_any key _ hm).mono ?_;rintro e w1 ⟨rfl,hb1⟩;have c0:=box_cell hb1 0;have c1:=box_cell hb1 1;have c2:=box_cell hb1 2;have hb:=below_of_alloc leR hb1;clear hb1;rw[HN.out];go_wp2_with fail
      refine(HR.out _ (HT.out.below hb)).mono ?_;rintro e w2 ⟨rfl,hb2⟩;replace hb:=below_step hb leR hb2
      clear hb2;unfold St.v;rw[RK.out];go_wp2_with fail
      go_ret;exact⟨by simp,hb.alloc hb.size _⟩
     have b7:(rk !=7)=true:=by simp[h7]
     by_cases h10:rk=10
     ·have b10:(rk !=10)=false:=by simp[h10]
      simp only[h10,decide_true,Bool.or_true,if_true];clear h6 h7 h10;go_enter func63,ntmps63
      go_wp2_with fail
      refine(name_any key _ hm).mono ?_;rintro e w1 ⟨rfl,hb1⟩;have c0:=box_cell hb1 0;have c1:=box_cell hb1 1;have c2:=box_cell hb1 2;have hb:=below_of_alloc leR hb1;clear hb1;rw[HN.out];go_wp2_with fail
      refine(HR.out _ (HT.out.below hb)).mono ?_;rintro e w2 ⟨rfl,hb2⟩;replace hb:=below_step hb leR hb2
      clear hb2;unfold St.v;rw[RK.out];go_wp2_with fail
      go_ret;exact⟨by simp,hb.alloc hb.size _⟩
     ·have b10:(rk !=10)=true:=by simp[h10]
      simp only[h6,h7,h10,decide_false,Bool.or_false,Bool.false_eq_true,if_false];clear h6 h7 h10;go_enter func63,ntmps63
      go_wp2_with fail
      refine(name_any key _ hm).mono ?_;rintro e w1 ⟨rfl,hb1⟩;have c0:=box_cell hb1 0;have c1:=box_cell hb1 1;have c2:=box_cell hb1 2;have hb:=below_of_alloc leR hb1;clear hb1;rw[HN.out];go_wp2_with fail
      refine(HR.out _ (HT.out.below hb)).mono ?_;rintro e w2 ⟨rfl,hb2⟩;replace hb:=below_step hb leR hb2
      clear hb2;unfold St.v;rw[RK.out];go_wp2_with fail
      go_ret;exact⟨by simp,hb.alloc hb.size _⟩
theorem check_any(hT:Tabs w)(hm:key.size≤maxLen)(hm2:val.size≤maxLen)(hr:k=11→ReadOk 79 val):
  Calls Tryz.prog 63 #[.agg #[.int .i64 k,.string key,.string val]] w fun e w'=>e= .returned (.int .i64 (checkE ⟨k,key,val⟩))∧Below w.heap.size w w':=by
 unfold checkE plainE;by_cases h11:k=11
 ·subst h11;rw[if_pos rfl];exact check_prep key val w hT hm (hr rfl)
 rw[if_neg h11];by_cases h0:k<1∨11<k
 ·rw[if_pos h0];exact check_kind k key val w h0
 rw[if_neg h0];by_cases h6:k<6
 ·rw[if_pos h6];exact check_low k key val w (by omega) (by omega)
 rw[if_neg h6];by_cases h9:k<9
 ·simp only[if_pos h9];exact check_mid k key val w (by omega) (by omega) hm
 ·simp only[if_neg h9];exact check_set k key val w (by omega) hm hm2
end
theorem four{k:Int}(h1:1≤k)(h4:k≤4):k=1∨k=2∨k=3∨k=4:=by omega
theorem three{k:Int}(h1:0≤k)(h4:k≤2):k=0∨k=1∨k=2:=by omega
theorem cut0:(⟨#[73,84,70]⟩:ByteArray).extract 0 1=⟨#[73]⟩:=by decide+kernel
theorem cut1:(⟨#[73,84,70]⟩:ByteArray).extract 1 2=⟨#[84]⟩:=by decide+kernel
theorem cut2:(⟨#[73,84,70]⟩:ByteArray).extract 2 3=⟨#[70]⟩:=by decide+kernel
theorem tell_ok(k:Int)(t:ByteArray)(st:Int)(w:World)(h1:1≤k)(h4:k≤4)(hs:0≤st)(hs2:st≤2)(hf:(k=2∨k=4)↔t.toList≠[])(hz:t.size≤60):
  Calls Tryz.prog 18 #[.agg #[.int .i64 k,.string t,.int .i64 st]] w fun e w'=>e= .returned (.tuple #[.string (stB st++bodyB k t),.int .i64 0])∧Below w.heap.size w w':=by
 by_cases he:t.toList=[]
 ·have hk:k=1∨k=3:=by simp only[he,ne_eq,not_true_eq_false,iff_false]at hf;omega
  clear hf;rcases hk with rfl|rfl<;>rcases three hs hs2 with rfl|rfl|rfl;all_goals
   go_enter func18,ntmps18
   go_wp2
   go_ret2
   exact⟨by simp[stB,bodyB,cut0,cut1,cut2],boxed2 _ _ _⟩
 ·have hk:k=2∨k=4:=by simpa[he]using hf
  clear hf;have hi:t.toList.isEmpty=false:=by simpa using he
  rcases hk with rfl|rfl<;>rcases three hs hs2 with rfl|rfl|rfl;all_goals
   go_enter func18,ntmps18
   go_wp2
   go_ret2
   exact⟨by simp[stB,bodyB,cut0,cut1,cut2],boxed2 _ _ _⟩
theorem tell_kind(k:Int)(t:ByteArray)(st:Int)(w:World)(h:k<1∨4<k∨st<0∨2<st):
  Calls Tryz.prog 18 #[.agg #[.int .i64 k,.string t,.int .i64 st]] w fun e w'=>e= .returned (.tuple #[.string ⟨#[]⟩,.int .i64 3])∧Below w.heap.size w w':=by
 by_cases c1:k<1
 ·go_enter func18,ntmps18
  go_wp2
  go_ret2
  exact⟨rfl,boxed _ _⟩
 ·by_cases c2:4<k
  ·go_enter func18,ntmps18
   go_wp2
   go_ret2
   exact⟨rfl,boxed _ _⟩
  ·by_cases c3:st<0
   ·go_enter func18,ntmps18
    go_wp2
    go_ret2
    exact⟨rfl,boxed _ _⟩
   ·have c4:2<st:=by omega
    clear h;go_enter func18,ntmps18
    go_wp2
    go_ret2
    exact⟨rfl,boxed _ _⟩
theorem tell_form(k:Int)(t:ByteArray)(st:Int)(w:World)(h1:1≤k)(h4:k≤4)(hs:0≤st)(hs2:st≤2)(hf:¬ (((k=2∨k=4)↔t.toList≠[])∧t.size≤60))(hm:t.size≤maxLen):
  Calls Tryz.prog 18 #[.agg #[.int .i64 k,.string t,.int .i64 st]] w fun e w'=>e= .returned (.tuple #[.string ⟨#[]⟩,.int .i64 4])∧Below w.heap.size w w':=by
 unfold maxLen at hm;by_cases he:t.toList=[]
 ·have hz:t.size≤60:=by rw[size_of_nil he];omega
  have hk:k=2∨k=4:=by simp only[he,hz,ne_eq,not_true_eq_false,iff_false,and_true]at hf;omega
  clear hf;rcases hk with rfl|rfl;all_goals
   go_enter func18,ntmps18
   go_wp2
   go_ret2
   exact⟨rfl,boxed _ _⟩
 ·have hi:t.toList.isEmpty=false:=by simpa using he
  rcases four h1 h4 with rfl|rfl|rfl|rfl
  ·clear hf;go_enter func18,ntmps18
   go_wp2
   go_ret2
   exact⟨rfl,boxed _ _⟩
  ·have hz:60<t.size:=by simp[he]at hf;omega
   clear hf;go_enter func18,ntmps18
   go_wp2
   go_ret2
   exact⟨rfl,boxed _ _⟩
  ·clear hf;go_enter func18,ntmps18
   go_wp2
   go_ret2
   exact⟨rfl,boxed _ _⟩
  ·have hz:60<t.size:=by simp[he]at hf;omega
   clear hf;go_enter func18,ntmps18
   go_wp2
   go_ret2
   exact⟨rfl,boxed _ _⟩
theorem told_ok(k:Int)(t:ByteArray)(st:Int)(w:World)(h1:1≤k)(h4:k≤4)(hs:0≤st)(hs2:st≤2)(hf:(k=2∨k=4)↔t.toList≠[])(hz:t.size≤60):
  Calls Tryz.prog 131 #[.agg #[.int .i64 k,.string t,.int .i64 st]] w fun e w'=>e= .returned (.tuple #[.string (stB st++bodyB k t),.int .i64 0])∧Below w.heap.size w w':=by
 by_cases he:t.toList=[]
 ·have hk:k=1∨k=3:=by simp only[he,ne_eq,not_true_eq_false,iff_false]at hf;omega
  clear hf;rcases hk with rfl|rfl<;>rcases three hs hs2 with rfl|rfl|rfl;all_goals
   go_enter func131,ntmps131
   go_wp2
   go_ret2
   exact⟨by simp[stB,bodyB],boxed _ _⟩
 ·have hk:k=2∨k=4:=by simpa[he]using hf
  clear hf;have hi:t.toList.isEmpty=false:=by simpa using he
  rcases hk with rfl|rfl<;>rcases three hs hs2 with rfl|rfl|rfl;all_goals
   go_enter func131,ntmps131
   go_wp2
   go_ret2
   exact⟨by simp[stB,bodyB,ByteArray.append_assoc],boxed _ _⟩
theorem told_kind(k:Int)(t:ByteArray)(st:Int)(w:World)(h:k<1∨4<k∨st<0∨2<st):
  Calls Tryz.prog 131 #[.agg #[.int .i64 k,.string t,.int .i64 st]] w fun e w'=>e= .returned (.tuple #[.string ⟨#[]⟩,.int .i64 3])∧Below w.heap.size w w':=by
 by_cases hk:k<1∨4<k
 ·go_enter func131,ntmps131
  go_wp2_with fail
  refine(in_no _ _ _ _ hk).mono ?_;rintro e w1 ⟨rfl,rfl⟩;go_wp2_with fail
  go_ret2
  exact⟨rfl,boxed _ _⟩
 ·have h1:1≤k:=by omega
  have h2:k≤4:=by omega
  have hs:st<0∨2<st:=by omega
  clear hk h;go_enter func131,ntmps131
  go_wp2_with fail
  refine(in_yes _ _ _ _ h1 h2).mono ?_;rintro e w1 ⟨rfl,rfl⟩;go_wp2_with fail
  refine(in_no _ _ _ _ hs).mono ?_;rintro e w1 ⟨rfl,rfl⟩;go_wp2_with fail
  go_ret2
  exact⟨rfl,boxed _ _⟩
theorem told_form(k:Int)(t:ByteArray)(st:Int)(w:World)(h1:1≤k)(h4:k≤4)(hs:0≤st)(hs2:st≤2)(hf:¬ (((k=2∨k=4)↔t.toList≠[])∧t.size≤60))(hm:t.size≤maxLen):
  Calls Tryz.prog 131 #[.agg #[.int .i64 k,.string t,.int .i64 st]] w fun e w'=>e= .returned (.tuple #[.string ⟨#[]⟩,.int .i64 4])∧Below w.heap.size w w':=by
 unfold maxLen at hm;by_cases he:t.toList=[]
 ·have hz:t.size≤60:=by rw[size_of_nil he];omega
  have hk:k=2∨k=4:=by simp only[he,hz,ne_eq,not_true_eq_false,iff_false,and_true]at hf;omega
  clear hf;rcases hk with rfl|rfl;all_goals
   go_enter func131,ntmps131
   go_wp2
   go_ret2
   exact⟨rfl,boxed _ _⟩
 ·have hi:t.toList.isEmpty=false:=by simpa using he
  rcases four h1 h4 with rfl|rfl|rfl|rfl
  ·clear hf;go_enter func131,ntmps131
   go_wp2
   go_ret2
   exact⟨rfl,boxed _ _⟩
  ·have hz:60<t.size:=by simp[he]at hf;omega
   clear hf;go_enter func131,ntmps131
   go_wp2
   go_ret2
   exact⟨rfl,boxed _ _⟩
  ·clear hf;go_enter func131,ntmps131
   go_wp2
   go_ret2
   exact⟨rfl,boxed _ _⟩
  ·have hz:60<t.size:=by simp[he]at hf;omega
   clear hf;go_enter func131,ntmps131
   go_wp2
   go_ret2
   exact⟨rfl,boxed _ _⟩
theorem strCells_app(a b:ByteArray):Lib.strCells (a++b)=Lib.strCells a++Lib.strCells b:=by
 unfold Lib.strCells;simp
section
variable {P:Program}(w:World)
theorem run_append_room_stringO(t u ty e:TypeId)(i:TypeInfo)(ht:P.underlying t=some (.slice e))(hu:P.underlying u=some .string)(hi:P.info? e=some i)(hs1:i.size=1)
  (g off sLen sCap:Nat) (cur:Array Value) (hg:w.heap[g]? =some (.cells cur e (0,0))) (s:ByteArray)
  (hroom:sLen+s.size≤sCap) (hfit:off+sLen+s.size≤cur.size):
  (Builtin.append_ #[t,u] ty #[.slice (some ⟨g,off,none⟩) sLen sCap,.string s]).run P w=
   .ok (.slice (some ⟨g,off,none⟩) (sLen+s.size) sCap) (w.setRow g (cur.toList.take (off+sLen)++Lib.strCells s++cur.toList.drop (off+sLen+s.size)).toArray):=by
 have hf:=Lib.run_firstCells_string (P:=P) w 1 s;have hst:=run_storeCells_at P g (off+sLen) e (Lib.strCells s) 0 cur w hg (by simpa[Lib.strCells_length]using hfit) (Lib.strCells_oneCell s)
 simp only[Nat.add_zero,Lib.strCells_length]at hst;simp[Builtin.append_,run_underlying ht,run_underlying hu,sizeOf,typeInfo,hi,hs1,Builtin.lenOf,hroom,hf,Addr.add_lit,hst]
theorem run_append_s(B:Nat)(t u ty e:TypeId)(i:TypeInfo)(ht:P.underlying t=some (.slice e))(hu:P.underlying u=some .string)(hi:P.info? e=some i)(hz:i.zero=some (.int .u8 0))
  (hsize:i.size=1) (hby:i.bytes=1)
  (v:Value) (n:Nat) (xs:List Value) (hown:OwnO w B e 1 v n xs) (s:ByteArray)
  (h63:n+s.size≤maxLen) (hbytes:n+s.size≤140737488355328) (hbase:B≤w.heap.size):
  ∃v' w',(Builtin.append_ #[t,u] ty #[v,.string s]).run P w= .ok v' w'∧OwnO w' B e 1 v' (n+s.size) (xs++Lib.strCells s)∧w.grownBy w' v.ownBlock∧
   (v'.ownBlock=v.ownBlock∨v'.ownBlock=some w.heap.size):=by
 have hsmall:n+s.size≤9223372036854775807:=by simp only[maxLen]at h63;omega
 have hxl:xs.length=n:=by simpa using hown.1
 have hlen:(xs++Lib.strCells s).length=(n+s.size)*1:=by rw[List.length_append,hxl,Lib.strCells_length,Nat.mul_one]
 have hz1:(Value.int IntKind.u8 0).cells.size=1:=rfl;have grown: ∀(old:Nat),old<n+s.size→∀(row:Option Nat),
   OwnO (w.drew.alloc (.cells (xs.toArray++(Lib.strCells s).toArray++Builtin.zeroCells (Value.int .u8 0).cells (grownCap w (n+s.size) old e-(n+s.size))) e)) B e 1
    (.slice (some ⟨w.heap.size,0,none⟩) (n+s.size) (grownCap w (n+s.size) old e)) (n+s.size) (xs++Lib.strCells s)∧
   w.grownBy (w.drew.alloc (.cells (xs.toArray++(Lib.strCells s).toArray++Builtin.zeroCells (Value.int .u8 0).cells (grownCap w (n+s.size) old e-(n+s.size))) e)) row:=by
  intro old ho row;have hge:=grownCap_ge w (n+s.size) old e;have hcm:grownCap w (n+s.size) old e≤maxLen:=grownCap_le_maxLen w (n+s.size) old e h63;refine⟨⟨hlen,.inr ⟨w.heap.size,0,_,_,rfl,hbase,heap_alloc_new w.drew _,hge,hcm,?_,?_⟩⟩,⟨rfl,rfl,rfl,by simp,fun k hk _=>Below.heap_alloc w.drew _ k hk⟩⟩
  ·simp only[Array.size_append,List.size_toArray,size_zeroCells,hz1,hxl,Lib.strCells_length];omega
  ·simp only[Array.toList_append,List.append_assoc,List.drop_zero];rw[←List.append_assoc,←hlen];exact List.take_left
 rcases hown.2 with⟨rfl,rfl⟩|⟨g,off,cap,cur,rfl,hbg,hg,hnc,hcm,hcs,htake⟩
 ·have hx:xs=[]:=List.eq_nil_of_length_eq_zero hxl;subst hx;by_cases hm:s.size=0
  ·have hn:Lib.strCells s=[]:=List.eq_nil_of_length_eq_zero (by rw[Lib.strCells_length];exact hm)
   refine⟨.slice none 0 0,w,?_,by rw[hm,hn];exact OwnO.nil w B e 1,World.grownBy.refl w _,.inl rfl⟩
   have hf:=Lib.run_firstCells_string (P:=P) w 1 s;rw[hm]at hf;simp[Builtin.append_,run_underlying ht,run_underlying hu,sizeOf,typeInfo,hi,hsize,Builtin.lenOf,hm,hf]
  ·have hr:=run_append_nil_string (P:=P) w t u ty e i (.int .u8 0) ht hu hi hz s (by omega) (by omega) (by rw[hby];omega)
   have hgr:=grown 0 (by omega) (Value.ownBlock (.slice none 0 0))
   simp only[Nat.zero_add,List.nil_append,Array.empty_append]at hgr⊢;have e1:(s.data.map fun b=>Value.int .u8 b.toNat)=(Lib.strCells s).toArray:=by
    apply Array.ext';simp[Lib.strCells]
   rw[e1]at hr;exact⟨_,_,hr,hgr.1,hgr.2,.inr rfl⟩
 ·by_cases hroom:n+s.size≤cap
  ·have hr:=run_append_room_stringO (P:=P) w t u ty e i ht hu hi hsize g off n cap cur hg s hroom (by omega)
   have hcl:cur.toList.length=cur.size:=Array.length_toList;refine⟨_,_,hr,⟨hlen,.inr ⟨g,off,cap,_,rfl,hbg,setRow_heap w g cur _ e _ hg,hroom,hcm,?_,?_⟩⟩,⟨rfl,rfl,rfl,by simp,fun k _ hk=>setRow_other w g k _ (fun e=>hk (by simp[Value.ownBlock,e]))⟩,.inl rfl⟩
   ·simp only[List.size_toArray,List.length_append,List.length_take,List.length_drop,Array.length_toList,Lib.strCells_length];omega
   ·have e1:cur.toList.take (off+n)=cur.toList.take off++xs:=by
     rw[←htake,List.take_add,Nat.mul_one]
    have e2:(cur.toList.take off).length=off:=by rw[List.length_take,Array.length_toList];omega
    rw[e1];simp only[List.append_assoc];rw[List.drop_left' e2,←List.append_assoc,←hlen];exact List.take_left
  ·obtain⟨A',c',e',_,hr0⟩:=hown.reads;have holds: ∀j u,xs[j]? =some u→w.cell? ((⟨g,off,none⟩:Addr).add j)=some u:=by
    intro j u hj;injection e' with e1 _ _;rcases Nat.eq_zero_or_pos n with h0|h0
    ·have hx:xs=[]:=List.eq_nil_of_length_eq_zero (by omega)
     rw[hx]at hj;cases hj
    ·obtain⟨ad,e2,_,hc⟩:=hr0.2 h0;rw[←e1]at e2;injection e2 with e2;subst e2;exact hc j u hj
   have hr:=Lib.run_append_grow_string (P:=P) w t u ty e i (.int .u8 0) ht hu hi hz ⟨g,off,none⟩ n cap xs (by rw[hsize,Nat.mul_one];exact hxl) holds s (by omega) (by omega) (by rw[hby,Nat.mul_one];have:=growslice_fits (need:=n+s.size) (old:=cap) (bytes:=1) (by omega) (by omega);omega)
   have hgr:=grown cap (by omega) (Value.ownBlock (.slice (some ⟨g,off,none⟩) n cap))
   exact⟨_,_,hr,hgr.1,hgr.2,.inr rfl⟩
theorem wpList_append_s{ops:Array Oper}{rest:List Oper}{o:Oper}{a:Act}{Q:Exit→Act→World→Prop}(hgd:o.guard=none)(x y:Operand)(t u:TypeId)
  (ho:o.op= .call {callee:=.builtin .append,args:=#[x,y],argTypes:=#[t,u]})
  (B:Nat) (e:TypeId) (i:TypeInfo) (ht:P.underlying t=some (.slice e)) (hu:P.underlying u=some .string) (hi:P.info? e=some i) (hz:i.zero=some (.int .u8 0))
  (hsize:i.size=1) (hby:i.bytes=1)
  (v:Value) (n:Nat) (xs:List Value) (hx:a.eval x=v) (hown:OwnO w B e 1 v n xs) (s:ByteArray) (hy:a.eval y= .string s)
  (h63:n+s.size≤maxLen) (hbytes:n+s.size≤140737488355328) (hbase:B≤w.heap.size)
  (h: ∀v' w',OwnO w' B e 1 v' (n+s.size) (xs++Lib.strCells s)→w.grownBy w' v.ownBlock→(v'.ownBlock=v.ownBlock∨v'.ownBlock=some w.heap.size)→wpList P ops Q rest (a.put o.dst v') w'):
  wpList P ops Q (o::rest) a w:=by
 refine wpList_plain hgd fun K hK=>?_;obtain⟨v',w',hr,h2,h3,h4⟩:=run_append_s (P:=P) w B t u o.type e i ht hu hi hz hsize hby v n xs hown s h63 hbytes hbase;unfold Oper.wp execOp;simp only[ho,resolve,invoke,builtin,Sem.run_bind,Sem.run_pure,Result.andThen_ok,List.map_toArray,List.map_cons,List.map_nil,hx,hy,hr];exact hK _ _ (h v' w' h2 h3 h4)
end
theorem two_bytes(k:UInt8)(s:ByteArray)(w:World)(h:s.size≤120):
  (convert 94 9 (.slice (some ⟨w.heap.size,0,none⟩) 2 2)).run Tryz.prog (w.alloc (.cells #[.int .u8 (k.toNat:Int),.int .u8 (s.size:Int)] 5))= .ok (.string ⟨#[k,UInt8.ofNat s.size]⟩) (w.alloc (.cells #[.int .u8 (k.toNat:Int),.int .u8 (s.size:Int)] 5)):=by
 have hm:s.size%256=s.size:=by omega
 exact run_convert_bytes_back (P:=Tryz.prog) _ 94 9 5 ⟨w.heap.size,0,none⟩ 2 [k,UInt8.ofNat s.size] underlying94 underlying5 underlying9 (fun j hj=>by
  rcases j with _|_|j
  ·exact(cell_of_row _ _ 0 _ _ (0,0) (heap_alloc_new w _))
  ·refine(cell_of_row _ _ 1 _ _ (0,0) (heap_alloc_new w _)).trans ?_;simp[hm]
  ·simp at hj;omega)
theorem pack_ok(k:UInt8)(s:ByteArray)(w:World)(h:s.size≤120):
  Calls Tryz.prog 39 #[.int .u8 (k.toNat:Int),.string s] w fun e w'=>e= .returned (.tuple #[.string (msg k s),.int .i64 0])∧Below w.heap.size w w':=by
 have H:=two_bytes k s w h;go_enter func39,ntmps39
 go_wp2
 go_ret2
 exact⟨rfl,bR.alloc leR _⟩
theorem pack_big(k:UInt8)(s:ByteArray)(w:World)(h:120<s.size)(hm:s.size≤maxLen):
  Calls Tryz.prog 39 #[.int .u8 (k.toNat:Int),.string s] w fun e w'=>e= .returned (.tuple #[.string ⟨#[]⟩,.int .i64 1])∧Below w.heap.size w w':=by
 unfold maxLen at hm;go_enter func39,ntmps39
 go_wp2
 go_ret2
 exact⟨rfl,bR⟩
theorem pack_any(k:UInt8)(s:ByteArray)(w:World)(hm:s.size≤maxLen):
  Calls Tryz.prog 39 #[.int .u8 (k.toNat:Int),.string s] w fun e w'=>e= .returned (.tuple #[.string (packS k s),.int .i64 (packE s)])∧Below w.heap.size w w':=by
 unfold packS packE;by_cases h:120<s.size
 ·rw[if_pos h,if_pos h];exact pack_big k s w h hm
 ·rw[if_neg h,if_neg h];exact pack_ok k s w (by omega)
theorem packed_ok(k:UInt8)(s:ByteArray)(w:World)(h:s.size≤120):
  Calls Tryz.prog 132 #[.int .u8 (k.toNat:Int),.string s] w fun e w'=>e= .returned (.tuple #[.string (msg k s),.int .i64 0])∧Below w.heap.size w w':=by
 have H:=two_bytes k s w h;go_enter func132,ntmps132
 go_wp2
 go_ret2
 exact⟨rfl,bR.alloc leR _⟩
theorem packed_big(k:UInt8)(s:ByteArray)(w:World)(h:120<s.size)(hm:s.size≤maxLen):
  Calls Tryz.prog 132 #[.int .u8 (k.toNat:Int),.string s] w fun e w'=>e= .returned (.tuple #[.string ⟨#[]⟩,.int .i64 1])∧Below w.heap.size w w':=by
 unfold maxLen at hm;go_enter func132,ntmps132
 go_wp2
 go_ret2
 exact⟨rfl,bR⟩
theorem packed_any(k:UInt8)(s:ByteArray)(w:World)(hm:s.size≤maxLen):
  Calls Tryz.prog 132 #[.int .u8 (k.toNat:Int),.string s] w fun e w'=>e= .returned (.tuple #[.string (packS k s),.int .i64 (packE s)])∧Below w.heap.size w w':=by
 unfold packS packE;by_cases h:120<s.size
 ·rw[if_pos h,if_pos h];exact packed_big k s w h hm
 ·rw[if_neg h,if_neg h];exact packed_ok k s w (by omega)
theorem unpack_ok(s:ByteArray)(b0 b1:UInt8)(w:World)(h0:0<s.size)(h1:1<s.size)(e0:s[0]'h0=b0)(e1:s[1]'h1=b1)(hk:2+b1.toNat≤s.size)(hm:s.size≤maxLen):
  Calls Tryz.prog 30 #[.string s] w fun e w'=>e= .returned (.tuple #[.int .u8 (b0.toNat:Int),.string (s.extract 2 (2+b1.toNat)),.int .i64 (2+(b1.toNat:Int))])∧∃n,w'=w.drewN n:=by
 unfold maxLen at hm;have hb:=b1.toNat_lt;have g3:2+(b1.toNat:Int)≤(s.size:Int):=by omega
 go_enter func30,ntmps30
 go_wp2
 have g1:(0:Int)≤2+(b1.toNat:Int):=by omega
 have g2:(2:Int)≤2+(b1.toNat:Int):=by omega
 have g4:(2+(b1.toNat:Int)).toNat=2+b1.toNat:=by omega
 go_quiet (fail)
 go_wp2
 go_ret3
 exact⟨rfl,_,rfl⟩
theorem unpack_no(s:ByteArray)(w:World)(hn:¬ whole s)(hm:s.size≤maxLen):
  Calls Tryz.prog 30 #[.string s] w fun e w'=>e= .returned (.tuple #[.int .u8 0,.string ⟨#[]⟩,.int .i64 0])∧∃n,w'=w.drewN n:=by
 unfold maxLen at hm;by_cases h1:1<s.size
 ·obtain⟨b1,e1⟩: ∃b,s[1]'h1=b:=⟨_,rfl⟩;have hk:s.size<2+b1.toNat:=by
   rcases Nat.lt_or_ge s.size (2+b1.toNat)with h|h
   ·exact h
   ·exact absurd ⟨h1,by rw[e1];exact h⟩ hn
  clear hn;have hb:=b1.toNat_lt;have g3:(s.size:Int)<2+(b1.toNat:Int):=by omega
  go_enter func30,ntmps30
  go_wp2
  go_ret3
  exact⟨rfl,0,rfl⟩
 ·have h2:s.size<2:=by omega
  clear hn h1;go_enter func30,ntmps30
  go_wp2
  go_ret3
  exact⟨rfl,0,rfl⟩
theorem unpacked_ok(s:ByteArray)(b0 b1:UInt8)(w:World)(h0:0<s.size)(h1:1<s.size)(e0:s[0]'h0=b0)(e1:s[1]'h1=b1)(hk:2+b1.toNat≤s.size)(hm:s.size≤maxLen):
  Calls Tryz.prog 50 #[.string s] w fun e w'=>e= .returned (.tuple #[.int .u8 (b0.toNat:Int),.string (s.extract 2 (2+b1.toNat)),.int .i64 (2+(b1.toNat:Int))])∧∃n,w'=w.drewN n:=by
 unfold maxLen at hm;have hb:=b1.toNat_lt;have g3:2+(b1.toNat:Int)≤(s.size:Int):=by omega
 have g5:(b1.toNat:Int)≤(s.size:Int)-2:=by omega
 go_enter func50,ntmps50
 go_wp2
 have g1:(0:Int)≤2+(b1.toNat:Int):=by omega
 have g2:(2:Int)≤2+(b1.toNat:Int):=by omega
 have g6:IntKind.i64.wrap (2+(b1.toNat:Int))=2+(b1.toNat:Int):=IntWalk.i64_in _ (by omega)
 have g4:(2+(b1.toNat:Int)).toNat=2+b1.toNat:=by omega
 go_quiet (fail)
 go_wp2
 go_ret3
 exact⟨rfl,_,rfl⟩
theorem unpacked_no(s:ByteArray)(w:World)(hn:¬ whole s)(hm:s.size≤maxLen):
  Calls Tryz.prog 50 #[.string s] w fun e w'=>e= .returned (.tuple #[.int .u8 0,.string ⟨#[]⟩,.int .i64 0])∧∃n,w'=w.drewN n:=by
 unfold maxLen at hm;by_cases h1:1<s.size
 ·obtain⟨b1,e1⟩: ∃b,s[1]'h1=b:=⟨_,rfl⟩;have hk:s.size<2+b1.toNat:=by
   rcases Nat.lt_or_ge s.size (2+b1.toNat)with h|h
   ·exact h
   ·exact absurd ⟨h1,by rw[e1];exact h⟩ hn
  clear hn;have hb:=b1.toNat_lt;have g3:(s.size:Int)-2<(b1.toNat:Int):=by omega
  go_enter func50,ntmps50
  go_wp2
  go_ret3
  exact⟨rfl,0,rfl⟩
 ·have h2:s.size<2:=by omega
  clear hn h1;go_enter func50,ntmps50
  go_wp2
  go_ret3
  exact⟨rfl,0,rfl⟩
def outZ:Value:=.agg #[.slice none 0 0,.slice none 0 0,.slice none 0 0]
def bxU(m s:Int):Obj:=.cells #[.int .i64 m,.int .i64 s] 23 (0,0)
def bxO:Obj:=.cells #[.slice none 0 0,.slice none 0 0,.slice none 0 0] 29 (0,0)
structure RU(w0:World)(m s:Int)(w:World):Prop where
 bel:Below w0.heap.size w0 w
 set:Blk w w0.heap.size 23 #[.int .i64 m,.int .i64 s]
 out:Blk w (w0.heap.size+1) 29 #[.slice none 0 0,.slice none 0 0,.slice none 0 0]
theorem RU.start(w:World)(m s:Int):RU w m s ((w.alloc (bxU m s)).alloc bxO):=by
 refine⟨boxed2 w _ _,(Blk.new w _ _).alloc _,?_⟩;have h:=Blk.new (w.alloc (bxU m s)) 29 #[.slice none 0 0,.slice none 0 0,.slice none 0 0];have e: ∀o:Obj,(w.alloc o).heap.size=w.heap.size+1:=fun o=>by simp
 rw[e]at h;exact h
theorem RU.keep{w0 w w':World}{m s:Int}(h:RU w0 m s w)(hb:Below w.heap.size w w'):RU w0 m s w':=
 ⟨below_step h.bel leR hb,h.set.keep hb,h.out.keep hb⟩
theorem RU.after{w0 w':World}{m s:Int}(hb:Below ((w0.alloc (bxU m s)).alloc bxO).heap.size ((w0.alloc (bxU m s)).alloc bxO) w'):RU w0 m s w':=(RU.start w0 m s).keep hb
theorem run_setup(m s:Int)(v:Value)(w:World)(h:setupE m s≠0):
  Calls Tryz.prog 12 #[.agg #[.int .i64 m,.int .i64 s],v] w fun e w'=>e= .returned (.tuple #[outZ,.int .i64 (setupE m s)])∧Below w.heap.size w w':=by
 have hs:=fun w=>setup_any m s w;obtain⟨E,hE⟩: ∃E,setupE m s=E:=⟨_,rfl⟩;rw[hE]at h⊢;rw[hE]at hs;have XS:=Hd hs;have hb0:(E !=0)=true:=by simp[h]
 clear hs h hE;unfold outZ;go_enter func12,ntmps12
 go_wp2_with fail
 refine(XS.out _).mono ?_;rintro e w1 ⟨rfl,hb1⟩;have hr:=RU.after hb1;have c0:=hr.out.cell_ 0 _ rfl;have c1:=hr.out.cell_ 1 _ rfl;have c2:=hr.out.cell_ 2 _ rfl;have fr:=hr.out.frozen;have HR:=Hd hr;clear hr hb1;go_wp2_with fail
 refine bodyPost_ret (v:=.tuple #[.agg #[.slice none 0 0,.slice none 0 0,.slice none 0 0],.int .i64 E]) ?_ rfl ⟨rfl,?_⟩
 ·simp[results,results12,go_sem,c0,c1,c2]
 ·exact((HR.out.bel.setCell (Nat.le_succ _) _).setCell (Nat.le_succ _) _).setCell (Nat.le_succ _) _
theorem run_long(m s:Int)(a:Option Addr)(n c:Nat)(w:World)(h:setupE m s=0)(hn:300<n):
  Calls Tryz.prog 12 #[.agg #[.int .i64 m,.int .i64 s],.slice a n c] w fun e w'=>e= .returned (.tuple #[outZ,.int .i64 1])∧Below w.heap.size w w':=by
 have hs:=fun w=>setup_any m s w;rw[h]at hs;have XS:=Hd hs;have hn1:(300:Int)<(n:Int):=by omega
 clear hs h;unfold outZ;go_enter func12,ntmps12
 go_wp2_with fail
 refine(XS.out _).mono ?_;rintro e w1 ⟨rfl,hb1⟩;have hr:=RU.after hb1;have c0:=hr.out.cell_ 0 _ rfl;have c1:=hr.out.cell_ 1 _ rfl;have c2:=hr.out.cell_ 2 _ rfl;have fr:=hr.out.frozen;have HR:=Hd hr;clear hr hb1;go_wp2_with fail
 refine bodyPost_ret (v:=.tuple #[.agg #[.slice none 0 0,.slice none 0 0,.slice none 0 0],.int .i64 1]) ?_ rfl ⟨rfl,?_⟩
 ·simp[results,results12,go_sem,c0,c1,c2]
 ·exact((HR.out.bel.setCell (Nat.le_succ _) _).setCell (Nat.le_succ _) _).setCell (Nat.le_succ _) _
def actE(k c:Int)(d:ByteArray):Int:=if k<1∨2<k then 3 else if c<0∨6≤c then 2 else if 1000<d.size then 1 else 0
theorem actE_cases{k c:Int}{d:ByteArray}(h:actE k c d≠0):(k<1∧actE k c d=3)∨(1≤k∧2<k∧actE k c d=3)∨(1≤k∧k≤2∧c<0∧actE k c d=2)∨(1≤k∧k≤2∧0≤c∧6≤c∧actE k c d=2)∨(1≤k∧k≤2∧0≤c∧c<6∧1000<d.size∧actE k c d=1):=by
 unfold actE at h⊢;by_cases h1:k<1∨2<k
 ·rw[if_pos h1];rcases Int.lt_or_le k 1 with h2|h2
  ·exact .inl ⟨h2,rfl⟩
  ·exact .inr (.inl ⟨h2,by omega,rfl⟩)
 rw[if_neg h1]at h⊢;by_cases h3:c<0∨6≤c
 ·rw[if_pos h3];rcases Int.lt_or_le c 0 with h2|h2
  ·exact .inr (.inr (.inl ⟨by omega,by omega,h2,rfl⟩))
  ·exact .inr (.inr (.inr (.inl ⟨by omega,by omega,h2,by omega,rfl⟩)))
 rw[if_neg h3]at h⊢;by_cases h4:1000<d.size
 ·rw[if_pos h4];exact .inr (.inr (.inr (.inr ⟨by omega,by omega,by omega,by omega,h4,rfl⟩)))
 ·rw[if_neg h4]at h;exact absurd rfl h
end Go.Proofs.YtjbnfigpflambacGreatDoor
