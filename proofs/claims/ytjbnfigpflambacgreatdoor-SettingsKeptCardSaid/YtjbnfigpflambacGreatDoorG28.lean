/- What a client was sent: its builder inside the pool's block: copyCheck, WriteString. (strings.Builder).String inside the pool: the text; the bytes' own block alone may be frozen. say.Tell and the reference's ToldOf: what each returns. (pool).tell: its walk. The pool in memory: its own slices are cut, appended to, stored; the state of (pool).next. -/
import Derived.Test.YtjbnfigpflambacGreatDoorG01
import Derived.Test.YtjbnfigpflambacGreatDoorG04
import Derived.Test.YtjbnfigpflambacGreatDoorG05
import Derived.Test.YtjbnfigpflambacGreatDoorG09
import Derived.Test.YtjbnfigpflambacGreatDoorG21
import Derived.Test.YtjbnfigpflambacGreatDoorG23
import Derived.Test.YtjbnfigpflambacGreatDoorG24
import Derived.Test.YtjbnfigpflambacGreatDoorG27
import Derived.Lib.Builder
import Derived.Laws.Externs
import Derived.Lib.Walk
import Derived.Deep.DeepCutAuto
import Derived.Lib.UnsafeStr
/- What a client was sent: its builder inside the pool's block: copyCheck, WriteString. -/
namespace Go.Proofs.YtjbnfigpflambacGreatDoor
open Go.ChangeShapes Go.WideShapes Go.ChangeAt Go.RowKit
theorem builder_info : (Tryz.prog.info? 96).map (fun i => i.size) = some 2 := by kernel_rfl
theorem pool_cells : Tryz.prog.cellsOf 101 = 68 := by kernel_rfl
theorem builder_lies (c : Nat) (hc : c < 6) : liesAt Tryz.prog Tryz.prog.depth 101 1 (6 + c * 10 + 8) 96 1 = true := by
 rcases c with _ | _ | _ | _ | _ | _ | c
 ·kernel_rfl
 ·kernel_rfl
 ·kernel_rfl
 ·kernel_rfl
 ·kernel_rfl
 ·kernel_rfl
 ·omega
set_option maxHeartbeats 1000000 in
set_option maxRecDepth 100000 in
theorem check_used (w : World) (a : Addr) (h0 : w.cell? a = some (.pointer (some a))) :
  Calls Tryz.prog 146 #[.pointer (some a)] w fun e w' => e = .returned (.tuple #[]) ∧ w' = w := by
 obtain ⟨j, hj, _⟩ := Option.map_eq_some_iff.1 builder_info
 obtain ⟨b, off, s⟩ := a
 go_enter Tryz.func146, Tryz.ntmps146
 go_wp2_with fail
 rw [Lib.run_neq_ptr_same w _ Tryz.underlying93 hj]
 go_wp2_with fail
 go_end0
 exact ⟨rfl, rfl⟩
set_option maxHeartbeats 1000000 in
set_option maxRecDepth 100000 in
theorem check_fresh (w : World) (p c : Nat) (hc : c < 6) (h0 : w.cell? ⟨p, 6 + c * 10 + 8, none⟩ = some (.pointer none)) (cs : Array Value) (hb : Blk w p 101 cs) (hs : cs.size = 68) :
  Calls Tryz.prog 146 #[.pointer (some ⟨p, 6 + c * 10 + 8, none⟩)] w fun e w' => e = .returned (.tuple #[]) ∧ w' = w.setCell ⟨p, 6 + c * 10 + 8, none⟩ (.pointer (some ⟨p, 6 + c * 10 + 8, none⟩)) := by
 obtain ⟨j, hj, hjs⟩ := Option.map_eq_some_iff.1 builder_info
 have hsh : w.shape? p = some (101, 68) := by
  unfold Blk at hb
  simp [World.shape?, hb, hs]
 have hfz := hb.frozen (6 + c * 10 + 8)
 have hl := builder_lies c hc
 obtain ⟨o, ho⟩ : ∃ o, 6 + c * 10 + 8 = o := ⟨_, rfl⟩
 rw [ho] at h0 hl hfz ⊢
 have hlt : o < 68 := by omega
 clear hb hs ho
 go_enter Tryz.func146, Tryz.ntmps146
 go_wp2_with fail
 rw [Lib.run_to_unsafe w ⟨p, o, none⟩ Tryz.underlying93 Tryz.underlying210 hj (by rw [hjs]; decide) hsh hlt]
 simp only [Result.andThen]
 rw [Oper.upon_value]
 go_wp2_with fail
 rw [run_callFunc_extern Tryz.func159 (by kernel_rfl) (by kernel_rfl) (by kernel_rfl) (e := Extern.AbiNoEscape.same) (by kernel_rfl)]
 rw [Lib.run_noEscape]
 simp only [Result.andThen]
 rw [Oper.upon_value]
 go_wp2_with fail
 rw [Lib.run_from_unsafe w ⟨p, o, none⟩ Tryz.underlying210 Tryz.underlying93 hj hsh (by rw [pool_cells]; exact hl)]
 simp only [Result.andThen]
 rw [Oper.upon_value]
 go_wp2_with fail
 go_end0
 exact ⟨rfl, rfl⟩
theorem copyCheck_any (w : World) (B p : Nat) (V : PV) (ks : List KV) (M : MV) (h : PoolR w B p V ks M) (c : Nat) (hc : c < 6) :
  Calls Tryz.prog 146 #[.pointer (some ⟨p, 6 + c * 10 + 8, none⟩)] w fun e w' => e = .returned (.tuple #[]) ∧ Done w B p V M w' := by
 have x8 : w.cell? ⟨p, 6 + c * 10 + 8, none⟩ = some (V.adr c) := h.b.cellC (k := 8) hc (by decide)
 rcases h.o.adr c hc with e | e
 ·rw [e] at x8
  obtain ⟨cs, hb, hs, _⟩ := h.b.blk
  refine (check_fresh w p c hc x8 cs hb hs).mono ?_
  rintro e w' ⟨rfl, rfl⟩
  have s := Step.cell (w := w) (V := V) (V' := { V with adr := up V.adr c (.pointer (some ⟨p, 6 + c * 10 + 8, none⟩)) }) (p := p) (.pointer (some ⟨p, 6 + c * 10 + 8, none⟩)) (6 + c * 10 + 8) fun r => by cases r <;> rfl
  exact ⟨rfl, _, _, ⟨h.o.st_adr c s, h.b.set_adr hc _⟩, s.turn trivial⟩
 ·rw [e] at x8
  refine (check_used w _ x8).mono ?_
  rintro e w' ⟨rfl, rfl⟩
  exact ⟨rfl, _, _, h, Turn.refl _ _ _⟩
theorem byte_info : (Tryz.prog.info? 5).map (fun i => (i.zero, i.size, i.bytes)) = some (some (.int .u8 0), 1, 1) := by kernel_rfl
theorem Step.of_grown {w w' : World} {B p : Nat} {V : PV} {ks : List KV} {M : MV} (h : PoolO w B p V ks M) {r0 : Role} (hr0 : r0.ok) (hp : r0 ≠ .pool) {v v' : Value} (hv : V.at p r0 = v.ownBlock) (g : w.grownBy w' v.ownBlock) (hn : v'.ownBlock = v.ownBlock ∨ v'.ownBlock = some w.heap.size) {V' : PV}
  (hv' : V'.at p r0 = v'.ownBlock) (same : ∀ r : Role, r ≠ r0 → V'.at p r = V.at p r) : Step p r0 w V w' V' :=
 .grown h hr0 hp (by rw [hv]; exact g) same fun k hk => by
  rw [hv'] at hk
  rcases hn with e | e
  ·exact .inl (by rw [hv, ← e]; exact hk)
  ·rw [e] at hk
   injection hk with hk
   exact .inr (Nat.le_of_eq hk)
set_option maxHeartbeats 1000000 in
set_option maxRecDepth 100000 in
theorem writeString_any (w : World) (B p : Nat) (V : PV) (ks : List KV) (M : MV) (h : PoolR w B p V ks M) (c : Nat) (hc : c < 6) (m : ByteArray) (hm : (M.sent c).size + m.size ≤ 140737488351232) :
  Calls Tryz.prog 129 #[.pointer (some ⟨p, 6 + c * 10 + 8, none⟩), .string m] w fun e w' => e = .returned (.tuple #[.int .i64 m.size, .nilIface]) ∧ Done w B p V { M with sent := up M.sent c (M.sent c ++ m) } w' := by
 obtain ⟨i0, hi0, hz0, hz1, hz2⟩ := info_parts byte_info
 have HR := Lib.hid h
 have HM := Lib.hid hm
 clear h hm
 go_enter Tryz.func129, Tryz.ntmps129
 go_wp2_with fail
 refine (copyCheck_any _ B p V ks M HR.out c hc).mono ?_
 rintro e w1 ⟨rfl, V1, ks1, h1, t1⟩
 have x9 : w1.cell? ⟨p, 6 + c * 10 + 9, none⟩ = some (V1.buf c) := h1.b.cellC (k := 9) hc (by decide)
 have ho := h1.o.buf c hc
 obtain ⟨n, hn⟩ : ∃ n, (M.sent c).size = n := ⟨_, rfl⟩
 have HN := Lib.hid hn
 rw [hn] at ho HM
 obtain ⟨A, cap, e, hle⟩ := ho.form
 have HE := Lib.hid e
 rw [e] at x9 ho
 have HO := Lib.hid ho
 have H1 := Lib.hid h1
 have T1 := Lib.hid t1
 have fp := h1.b.frozen
 have hB := Nat.le_of_lt (Nat.lt_of_le_of_lt h1.o.lb h1.b.lt)
 clear h1 t1 ho e hle
 clear hn
 go_wp2_with (at_builtin; refine wpList_append_s _ rfl _ _ 94 9 rfl B 5 i0 Tryz.underlying94 Tryz.underlying9 hi0 hz0 hz1 hz2 (.slice A n cap) _ _ rfl HO.out m rfl (le_maxLen HM.out) (Nat.le_trans HM.out (by decide)) hB ?_)
 intro v' w2 h2 h3 h4
 have s1 : Step p (.buf c) w1 V1 w2 { V1 with buf := up V1.buf c v' } := Step.of_grown (r0 := .buf c) (v := .slice A n cap) H1.out.o hc (by simp) (by show (V1.buf c).ownBlock = _; rw [HE.out]) h3 h4 (by show (up V1.buf c v' c).ownBlock = _; rw [up_at])
  fun r hr => by cases r <;> first | rfl | (rename_i i; show (up V1.buf c v' i).ownBlock = _; rw [up_off _ _ (fun e => hr (by rw [e]))]; rfl)
 have O2 := Lib.hid (H1.out.o.st_buf hc (v := v') (t := M.sent c ++ m) (by rw [ByteArray.size_append, strCells_app, HN.out]; exact h2) s1)
 have T2 := Lib.hid (T1.out.trans (s1.turn hc))
 have hbp : w2.heap[p]? = w1.heap[p]? := h3.block p H1.out.b.lt fun e => absurd (H1.out.o.apart .pool (.buf c) p trivial hc rfl (by show (V1.buf c).ownBlock = _; rw [HE.out]; exact e.symm)) (by simp)
 have B2 := Lib.hid (H1.out.b.keep hbp)
 have x9 : w2.cell? ⟨p, 6 + c * 10 + 9, none⟩ = some (V1.buf c) := B2.out.cellC (k := 9) hc (by decide)
 have fp := B2.out.frozen
 obtain ⟨A', cap', e', _⟩ := h2.form
 subst e'
 clear h2 h3 h4 s1 hbp HO
 go_wp2_with fail
 have s3 := Step.cell (w := w2) (V := { V1 with buf := up V1.buf c (.slice A' (n + m.size) cap') }) (V' := { V1 with buf := up V1.buf c (.slice A' (n + m.size) cap') }) (p := p) (.slice A' (n + m.size) cap') (6 + c * 10 + 9) fun _ => rfl
 have HF : Hid (Done w B p V { M with sent := up M.sent c (M.sent c ++ m) } (w2.setCell ⟨p, 6 + c * 10 + 9, none⟩ (.slice A' (n + m.size) cap'))) := Lib.hid ⟨_, _, ⟨O2.out.st_same s3, (B2.out.set_buf hc _).same fun _ _ => rfl⟩, T2.out.trans (s3.turn trivial)⟩
 clear s3
 go_ret2
 exact ⟨rfl, HF.out⟩
end Go.Proofs.YtjbnfigpflambacGreatDoor
/- (strings.Builder).String inside the pool: the text; the bytes' own block alone may be frozen. -/
namespace Go.Proofs.YtjbnfigpflambacGreatDoor
open Go.ChangeShapes Go.WideShapes Go.ChangeAt Go.RowKit
theorem lies_off {P : Program} {e : TypeId} (hc : P.cellsOf e = 1) (count off n : Nat) (hn : off + n ≤ count) : liesAt P P.depth e count off e n = true := by
 have hd : P.depth = (2 * (P.types.size + Made.depth) + 1) + 1 := rfl
 rw [hd]
 simp only [liesAt, Bool.or_eq_true]
 left
 rw [hd]
 simp [rowAt, hc, hn, sameLayout, Nat.mod_one]
theorem run_string_off {P : Program} (w : World) (pt it ty e : TypeId) (hp : P.underlying pt = some (.pointer e)) (hc : P.cellsOf e = 1) (g off cells : Nat) (hsh : w.shape? g = some (e, cells)) (l : List UInt8) (h0 : l ≠ []) (hn : off + l.length ≤ cells) (h63 : l.length ≤ 9223372036854775807)
  (hcell : ∀ j x, l[j]? = some x → w.cell? ((⟨g, off, none⟩ : Addr).add j) = some (.int .u8 x.toNat)) :
  (Builtin.unsafeString_ #[pt, it] ty #[.pointer (some ⟨g, off, none⟩), .int .i64 l.length]).run P w = .ok (.string ⟨l.toArray⟩) (w.freeze ⟨g, off, none⟩ l.length) := by
 have hl : l.length ≠ 0 := by simpa using h0
 have hlb := Lib.run_loadBytes (P := P) w l ⟨g, off, none⟩ .empty hcell
 have hlies := lies_off (P := P) hc (cells / P.cellsOf e) off l.length (by rw [hc]; simpa using hn)
 have h63' : ¬ (9223372036854775807 : Int) < (l.length : Int) := by omega
 obtain ⟨m1, m2, m3, hdef⟩ : ∃ m1 m2 m3, Builtin.unsafeString_ #[pt, it] ty #[.pointer (some ⟨g, off, none⟩), .int .i64 l.length] =
   (do
    let n ← asInt (.int .i64 l.length)
    if n < 0 then runtimePanic (.error m1)
    if n > IntKind.i64.max then unsupported (.unsafePointer m2)
    if n = 0 then pure (.string .empty)
    else if ← variablesAt ⟨g, off, none⟩ (← elemOf pt) n.toNat then do
     let s ← loadBytes ⟨g, off, none⟩ .empty n.toNat
     freeze ⟨g, off, none⟩ n.toNat
     pure (.string s)
    else unsupported (.unsafePointer m3)) := ⟨_, _, _, rfl⟩
 rw [hdef]
 have hmax : IntKind.i64.max = 9223372036854775807 := rfl
 have hneg : ¬ (l.length : Int) < 0 := by omega
 simp [asInt, asIntOf, hmax, h63', hneg, hl, variablesAt, hsh, elemOf, run_underlying hp, hlies, hlb]
theorem grown_freeze (w : World) (g off n : Nat) : w.grownBy (w.freeze ⟨g, off, none⟩ n) (some g) := by
 unfold World.freeze
 split
 ·exact World.grownBy.refl _ _
 ·exact ⟨rfl, rfl, rfl, by simp, fun k hk hne => by
   simp only [Array.getElem?_modify]
   rw [if_neg (fun e => hne (by rw [← e]))]⟩
theorem run_string_none {P : Program} (w : World) (pt it ty : TypeId) (a : Option Addr) : (Builtin.unsafeString_ #[pt, it] ty #[.pointer a, .int .i64 0]).run P w = .ok (.string ⟨#[]⟩) w := Lib.run_unsafeString_none w pt it ty a
theorem strCells_at (t : ByteArray) (j : Nat) (x : UInt8) (h : t.data.toList[j]? = some x) : (Lib.strCells t)[j]? = some (.int .u8 (x.toNat : Int)) := by
 unfold Lib.strCells
 simp at h ⊢
 exact ⟨_, h, rfl⟩
theorem byte_cells : Tryz.prog.cellsOf 5 = 1 := by kernel_rfl
set_option maxRecDepth 100000 in
theorem string_runs (w : World) (B : Nat) (v : Value) (t : ByteArray) (ho : OwnO w B 5 1 v t.size (Lib.strCells t)) :
  ∃ q w1 w2, (∀ ts, (Builtin.unsafeSliceData_ ts 147 #[v]).run Tryz.prog w = .ok (.pointer q) w1) ∧ Below w.heap.size w w1 ∧
   (∀ it ty, (Builtin.unsafeString_ #[147, it] ty #[.pointer q, .int .i64 (t.size : Int)]).run Tryz.prog w1 = .ok (.string t) w2) ∧ w.grownBy w2 v.ownBlock := by
 have hl := ho.1
 by_cases h0 : t.size = 0
 ·have ht : t = ⟨#[]⟩ := by
   cases t with
   | mk d => 
    have : d.size = 0 := h0
    rw [Array.size_eq_zero_iff] at this
    rw [this]
  subst ht
  rcases ho.2 with ⟨rfl, _⟩ | ⟨g, off, cap, cur, rfl, _, hg, _⟩
  ·exact ⟨none, w, w, fun ts => Lib.run_unsafeSliceData_nil _ ts _ _ _, Below.refl _ _, fun it ty => run_string_none w _ it ty none, World.grownBy.refl _ _⟩
  ·by_cases hc : cap = 0
   ·subst hc
    refine ⟨_, w.alloc (.view ⟨g, off, none⟩ 5), w.alloc (.view ⟨g, off, none⟩ 5), fun ts => Lib.run_unsafeSliceData_zero w ts _ 5 Tryz.underlying147 ⟨g, off, none⟩ _ (5, cur.size) (by simp [World.shape?, hg]), boxed _ _, fun it ty => run_string_none _ _ it ty _, World.grownBy_alloc _ _ _⟩
   ·exact ⟨some ⟨g, off, none⟩, w, w, fun ts => Lib.run_unsafeSliceData_row _ ts _ _ _ _ hc, Below.refl _ _, fun it ty => run_string_none w _ it ty _, World.grownBy.refl _ _⟩
 ·obtain ⟨g, off, cap, e, hc, hcell, _⟩ := ho.pos (by omega)
  rcases ho.2 with ⟨_, h1⟩ | ⟨g', off', cap', cur, e', _, hg, hnc, hcm, hsz, _⟩
  ·exact absurd h1 h0
  rw [e'] at e
  injection e with e1 e2 e3
  injection e1 with e1
  injection e1 with e1 e4
  subst e1 e3 e4 e'
  have hlen : t.data.toList.length = t.size := by simp
  refine ⟨some ⟨g', off', none⟩, w, _, fun ts => Lib.run_unsafeSliceData_row _ ts _ _ _ _ (by omega), Below.refl _ _, fun it ty => ?_, grown_freeze w g' off' t.data.toList.length⟩
  have hr := run_string_off (P := Tryz.prog) w 147 it ty 5 Tryz.underlying147 byte_cells g' off' cur.size (by simp [World.shape?, hg]) t.data.toList (fun e => h0 (by rw [← hlen, e]; rfl)) (by rw [hlen]; omega) (by
    rw [hlen]
    unfold maxLen at hcm
    omega) (fun j x hx => by
    have hj : j < t.size := by rw [← hlen]; exact (List.getElem?_eq_some_iff.1 hx).1
    rw [Addr.add_lit, hcell j (by omega)]
    exact strCells_at t j x hx)
  rw [hlen] at hr
  simpa using hr
set_option maxHeartbeats 2000000 in
set_option maxRecDepth 100000 in
theorem string_any (w : World) (B p c : Nat) (_hc : c < 6) (v : Value) (t : ByteArray) (hx : w.cell? ⟨p, 6 + c * 10 + 9, none⟩ = some v) (ho : OwnO w B 5 1 v t.size (Lib.strCells t)) :
  Calls Tryz.prog 47 #[.pointer (some ⟨p, 6 + c * 10 + 8, none⟩)] w fun e w' => e = .returned (.string t) ∧ w.grownBy w' v.ownBlock := by
 obtain ⟨q, w1, w2, h1, b1, h2, g2⟩ := string_runs w.drew B v t (ho.below (Below.refl _ _).drew)
 obtain ⟨A, k, e, _⟩ := ho.form
 subst e
 obtain ⟨n, hn⟩ : ∃ n, t.size = n := ⟨_, rfl⟩
 rw [hn] at hx h1 h2
 have HG := Lib.hid (show w.grownBy w2 (Value.slice A t.size k).ownBlock from ⟨g2.os, g2.tape, g2.output, g2.size, g2.block⟩)
 have HB := Lib.hid b1
 clear ho b1 g2 hn
 go_enter Tryz.func47, Tryz.ntmps47
 go_upto_region 1 with fail
 refine region_segs [10] (by kernel_rfl) ?_
 refine anyB_seg [0, 1, 2, 3, 5, 6, 7, 8, 9] 3 rfl (by kernel_rfl) (by kernel_rfl) (by kernel_rfl) (fun _ _ d _ _ h => by cases d <;> exact h) ?_
 simp only [pickOps, List.getElem?_toArray, List.getElem?_cons_zero, List.getElem?_cons_succ]
 go_wp2_with fail
 refine ⟨rfl, by rfl, ?_⟩
 refine anyB_one (i := 4) (by kernel_rfl) rfl (fun K hK => ?_)
 go_simp
 refine hK.out _ _ (fun _ => HB.out) ?_
 clear hK K
 refine anyB_one (i := 10) (by kernel_rfl) rfl (fun K hK => ?_)
 go_simp
 refine hK.out _ _ (fun h => absurd (by decide) h) ?_
 clear hK K
 refine anyB_seg [11] 0 rfl (by kernel_rfl) (by kernel_rfl) (by kernel_rfl) (fun _ _ d _ _ h => by cases d <;> exact h) ?_
 simp only [pickOps, List.getElem?_toArray, List.getElem?_cons_zero, List.getElem?_cons_succ]
 go_wp2_with fail
 refine ⟨rfl, by rfl, ?_⟩
 refine anyB_done (by kernel_rfl) ?_ _
 go_wp2_with fail
 go_ret
 exact ⟨rfl, HG.out⟩
end Go.Proofs.YtjbnfigpflambacGreatDoor
/- say.Tell and the reference's ToldOf: what each returns. -/
namespace Go.Proofs.YtjbnfigpflambacGreatDoor
open Go.ChangeShapes Go.WideShapes Go.ChangeAt Go.RowKit
theorem four {k : Int} (h1 : 1 ≤ k) (h4 : k ≤ 4) : k = 1 ∨ k = 2 ∨ k = 3 ∨ k = 4 := by omega
theorem three {k : Int} (h1 : 0 ≤ k) (h4 : k ≤ 2) : k = 0 ∨ k = 1 ∨ k = 2 := by omega
theorem cut0 : (⟨#[73, 84, 70]⟩ : ByteArray).extract 0 1 = ⟨#[73]⟩ := by decide +kernel
theorem cut1 : (⟨#[73, 84, 70]⟩ : ByteArray).extract 1 2 = ⟨#[84]⟩ := by decide +kernel
theorem cut2 : (⟨#[73, 84, 70]⟩ : ByteArray).extract 2 3 = ⟨#[70]⟩ := by decide +kernel
set_option maxHeartbeats 2000000 in
theorem tell_ok (k : Int) (t : ByteArray) (st : Int) (w : World) (h1 : 1 ≤ k) (h4 : k ≤ 4) (hs : 0 ≤ st) (hs2 : st ≤ 2) (hf : (k = 2 ∨ k = 4) ↔ t.toList ≠ []) (hz : t.size ≤ 60) :
  Calls Tryz.prog 18 #[.agg #[.int .i64 k, .string t, .int .i64 st]] w fun e w' => e = .returned (.tuple #[.string (stB st ++ bodyB k t), .int .i64 0]) ∧ Below w.heap.size w w' := by
 by_cases he : t.toList = []
 ·have hk : k = 1 ∨ k = 3 := by simp only [he, ne_eq, not_true_eq_false, iff_false] at hf; omega
  clear hf
  rcases hk with rfl | rfl <;> rcases three hs hs2 with rfl | rfl | rfl
  all_goals
   go_enter Tryz.func18, Tryz.ntmps18
   go_wp2
   go_ret2
   exact ⟨by simp [stB, bodyB, cut0, cut1, cut2], boxed2 _ _ _⟩
 ·have hk : k = 2 ∨ k = 4 := by simpa [he] using hf
  clear hf
  have hi : t.toList.isEmpty = false := by simpa using he
  rcases hk with rfl | rfl <;> rcases three hs hs2 with rfl | rfl | rfl
  all_goals
   go_enter Tryz.func18, Tryz.ntmps18
   go_wp2
   go_ret2
   exact ⟨by simp [stB, bodyB, cut0, cut1, cut2], boxed2 _ _ _⟩
theorem tell_kind (k : Int) (t : ByteArray) (st : Int) (w : World) (h : k < 1 ∨ 4 < k ∨ st < 0 ∨ 2 < st) :
  Calls Tryz.prog 18 #[.agg #[.int .i64 k, .string t, .int .i64 st]] w fun e w' => e = .returned (.tuple #[.string ⟨#[]⟩, .int .i64 3]) ∧ Below w.heap.size w w' := by
 by_cases c1 : k < 1
 ·go_enter Tryz.func18, Tryz.ntmps18
  go_wp2
  go_ret2
  exact ⟨rfl, boxed _ _⟩
 ·by_cases c2 : 4 < k
  ·go_enter Tryz.func18, Tryz.ntmps18
   go_wp2
   go_ret2
   exact ⟨rfl, boxed _ _⟩
  ·by_cases c3 : st < 0
   ·go_enter Tryz.func18, Tryz.ntmps18
    go_wp2
    go_ret2
    exact ⟨rfl, boxed _ _⟩
   ·have c4 : 2 < st := by omega
    clear h
    go_enter Tryz.func18, Tryz.ntmps18
    go_wp2
    go_ret2
    exact ⟨rfl, boxed _ _⟩
theorem tell_form (k : Int) (t : ByteArray) (st : Int) (w : World) (h1 : 1 ≤ k) (h4 : k ≤ 4) (hs : 0 ≤ st) (hs2 : st ≤ 2) (hf : ¬ (((k = 2 ∨ k = 4) ↔ t.toList ≠ []) ∧ t.size ≤ 60)) (hm : t.size ≤ maxLen) :
  Calls Tryz.prog 18 #[.agg #[.int .i64 k, .string t, .int .i64 st]] w fun e w' => e = .returned (.tuple #[.string ⟨#[]⟩, .int .i64 4]) ∧ Below w.heap.size w w' := by
 unfold maxLen at hm
 by_cases he : t.toList = []
 ·have hz : t.size ≤ 60 := by rw [size_of_nil he]; omega
  have hk : k = 2 ∨ k = 4 := by simp only [he, hz, ne_eq, not_true_eq_false, iff_false, and_true] at hf; omega
  clear hf
  rcases hk with rfl | rfl
  all_goals
   go_enter Tryz.func18, Tryz.ntmps18
   go_wp2
   go_ret2
   exact ⟨rfl, boxed _ _⟩
 ·have hi : t.toList.isEmpty = false := by simpa using he
  rcases four h1 h4 with rfl | rfl | rfl | rfl
  ·clear hf
   go_enter Tryz.func18, Tryz.ntmps18
   go_wp2
   go_ret2
   exact ⟨rfl, boxed _ _⟩
  ·have hz : 60 < t.size := by simp [he] at hf; omega
   clear hf
   go_enter Tryz.func18, Tryz.ntmps18
   go_wp2
   go_ret2
   exact ⟨rfl, boxed _ _⟩
  ·clear hf
   go_enter Tryz.func18, Tryz.ntmps18
   go_wp2
   go_ret2
   exact ⟨rfl, boxed _ _⟩
  ·have hz : 60 < t.size := by simp [he] at hf; omega
   clear hf
   go_enter Tryz.func18, Tryz.ntmps18
   go_wp2
   go_ret2
   exact ⟨rfl, boxed _ _⟩
end Go.Proofs.YtjbnfigpflambacGreatDoor
/- (pool).tell: its walk. -/
namespace Go.Proofs.YtjbnfigpflambacGreatDoor
open Go.ChangeShapes Go.WideShapes Go.ChangeAt Go.RowKit
theorem fit_iff (k : Int) (t : ByteArray) (st : Int) : fitA k t st = true ↔ 1 ≤ k ∧ k ≤ 4 ∧ 0 ≤ st ∧ st ≤ 2 ∧ ((k = 2 ∨ k = 4) ↔ t.toList ≠ []) ∧ t.size ≤ 60 := by
 unfold fitA
 rw [toList_data]
 simp only [Bool.and_eq_true, decide_eq_true_eq, and_assoc]
 refine and_congr_right fun _ => and_congr_right fun _ => and_congr_right fun _ => and_congr_right fun _ => and_congr_left fun _ => ?_
 cases h : t.data.toList with
 | nil => simp
 | cons a l => simp
theorem tell_any (k : Int) (t : ByteArray) (st : Int) (w : World) (hm : t.size ≤ maxLen) :
  Calls Tryz.prog 18 #[.agg #[.int .i64 k, .string t, .int .i64 st]] w fun e w' => ∃ er, e = .returned (.tuple #[.string (tellS k t st), .int .i64 er]) ∧ Below w.heap.size w w' := by
 unfold tellS
 by_cases h : fitA k t st = true
 ·rw [if_pos h]
  obtain ⟨h1, h2, h3, h4, h5, h6⟩ := (fit_iff k t st).1 h
  exact (tell_ok k t st w h1 h2 h3 h4 h5 h6).mono fun e w' ⟨e1, hb⟩ => ⟨_, e1, hb⟩
 ·rw [if_neg h]
  by_cases c1 : k < 1 ∨ 4 < k ∨ st < 0 ∨ 2 < st
  ·exact (tell_kind k t st w c1).mono fun e w' ⟨e1, hb⟩ => ⟨_, e1, hb⟩
  ·refine (tell_form k t st w (by omega) (by omega) (by omega) (by omega) ?_ hm).mono fun e w' ⟨e1, hb⟩ => ⟨_, e1, hb⟩
   rintro ⟨h5, h6⟩
   exact h ((fit_iff k t st).2 ⟨by omega, by omega, by omega, by omega, h5, h6⟩)
theorem tellS_size (k : Int) (t : ByteArray) (st : Int) : (tellS k t st).size ≤ 100 := by
 unfold tellS
 split
 ·rename_i h
  obtain ⟨_, _, _, _, _, h6⟩ := (fit_iff k t st).1 h
  have h1 : (stB st).size ≤ 1 := by unfold stB; split <;> (try split) <;> decide
  have h2 : (bodyB k t).size ≤ 61 := by
   unfold bodyB
   split
   ·decide
   split
   ·rw [ByteArray.size_append]; have : (⟨#[61]⟩ : ByteArray).size = 1 := rfl; omega
   split
   ·decide
   ·rw [ByteArray.size_append]; have : (⟨#[33]⟩ : ByteArray).size = 1 := rfl; omega
  rw [ByteArray.size_append]
  omega
 ·decide
theorem tellM_size (a : An) : (tellM a).size ≤ 102 := by
 have h := tellS_size a.kind a.text a.st
 unfold tellM packS
 rw [if_neg (by omega), msg_size]
 omega
set_option maxHeartbeats 1000000 in
set_option maxRecDepth 100000 in
theorem ptell_any (w : World) (B p : Nat) (V : PV) (ks : List KV) (M : MV) (h : PoolR w B p V ks M) (c : Nat) (hc : c < 6) (a : An) (ha : a.text.size ≤ maxLen) (hm : (M.sent c).size ≤ 1000000000) :
  Calls Tryz.prog 104 #[.pointer (some ⟨p, 0, none⟩), .int .i64 (c : Nat), .agg #[.int .i64 a.kind, .string a.text, .int .i64 a.st]] w fun e w' => e = .returned (.tuple #[]) ∧ Done w B p V { M with sent := up M.sent c (M.sent c ++ tellM a) } w' := by
 have HR := Lib.hid h
 have HA := Lib.hid ha
 have hz := tellS_size a.kind a.text a.st
 have hz2 := tellM_size a
 have HM := Lib.hid hm
 have g1 : (c : Int) < 6 := by omega
 have g2 : (0 : Int) ≤ (c : Int) := by omega
 have e0 : packS 82 (tellS a.kind a.text a.st) = tellM a := rfl
 have E0 := Lib.hid e0
 obtain ⟨K, T, S⟩ := a
 obtain ⟨u, hu⟩ : ∃ u, tellM ⟨K, T, S⟩ = u := ⟨_, rfl⟩
 rw [hu] at E0 hz2 ⊢
 have HZ := Lib.hid hz
 have HZ2 := Lib.hid hz2
 clear h ha hz hz2 e0 hm hu
 go_enter Tryz.func104, Tryz.ntmps104
 go_wp2_with fail
 refine (tell_any _ _ _ _ HA.out).mono ?_
 rintro e w1 ⟨er, rfl, b1⟩
 have R1 := Lib.hid ((HR.out.below (boxed w _)).below b1)
 have T1 := Lib.hid (((Turn.refl p w V).below (boxed w _)).below b1)
 clear b1
 go_wp2_with fail
 have pk := pack_any 82 (tellS K T S) w1 (Nat.le_trans HZ.out (by decide))
 rw [show packS 82 (tellS K T S) = u from E0.out] at pk
 refine pk.mono ?_
 rintro e w2 ⟨rfl, b2⟩
 have R2 := Lib.hid (R1.out.below b2)
 have T2 := Lib.hid (T1.out.below b2)
 clear b2 pk
 go_wp2_with fail
 refine (writeString_any _ B p V ks M R2.out c hc u (by have := HM.out; have := HZ2.out; omega)).mono ?_
 rintro e w3 ⟨rfl, V3, ks3, h3, t3⟩
 have H3 := Lib.hid h3
 have T3 := Lib.hid (T2.out.trans t3)
 clear h3 t3
 go_wp2_with fail
 go_end0
 exact ⟨rfl, _, _, H3.out, T3.out⟩
end Go.Proofs.YtjbnfigpflambacGreatDoor
/- The pool in memory: its own slices are cut, appended to, stored; the state of (pool).next. -/
namespace Go.Proofs.YtjbnfigpflambacGreatDoor
open Go.ChangeShapes Go.WideShapes Go.ChangeAt Go.RowKit
section
variable {w w2 : World} {B p : Nat} {V : PV} {ks : List KV} {M : MV}
theorem PoolR.put_pend (h : PoolR w B p V ks M) {c : Nat} (hc : c < 6) {v : Value} {l : List St} (ho : OwnO w B 41 3 v l.length (stV l)) (hn : ∀ k, v.ownBlock = some k → (V.pend c).ownBlock = some k ∨ w.heap.size ≤ k) :
  PoolR (w.setCell ⟨p, 6 + c * 10 + 1, none⟩ v) B p { V with pend := up V.pend c v } ks { M with pend := up M.pend c l } ∧ Turn p w V (w.setCell ⟨p, 6 + c * 10 + 1, none⟩ v) { V with pend := up V.pend c v } := by
 have s := Step.store w V p (6 + c * 10 + 1) v (.pend c) (V' := { V with pend := up V.pend c v }) (fun r hr => by cases r <;> first | rfl | (rename_i i; show (up V.pend c v i).ownBlock = _; rw [up_off _ _ (fun e => hr (by rw [e]))]; rfl)) (fun k hk => by
  have hk : (up V.pend c v c).ownBlock = some k := hk
  rw [up_at] at hk
  exact hn k hk)
 have ho' : OwnO (w.setCell ⟨p, 6 + c * 10 + 1, none⟩ v) B 41 3 v l.length (stV l) := ho.keep fun k hk => Below.heap_setCell w ⟨p, 6 + c * 10 + 1, none⟩ v k (fun e => by
  have e : k = p := e
  rcases hn k hk with h1 | h1
  ·exact absurd (h.o.apart (.pend c) .pool k hc trivial h1 (by rw [e]; rfl)) (by simp)
  ·have := (ho.lt k hk).2
   omega)
 exact ⟨⟨h.o.st_pend hc ho' s, (h.b.set_pend hc v).same (fun _ _ => rfl)⟩, s.turn hc⟩
theorem PoolR.app_pend (h : PoolR w B p V ks M) {c : Nat} (hc : c < 6) {v : Value} {l : List St} (ho : OwnO w2 B 41 3 v l.length (stV l)) (g : w.grownBy w2 (V.pend c).ownBlock) (hn : v.ownBlock = (V.pend c).ownBlock ∨ v.ownBlock = some w.heap.size) :
  PoolR (w2.setCell ⟨p, 6 + c * 10 + 1, none⟩ v) B p { V with pend := up V.pend c v } ks { M with pend := up M.pend c l } ∧ Turn p w V (w2.setCell ⟨p, 6 + c * 10 + 1, none⟩ v) { V with pend := up V.pend c v } ∧ w2.cell? ⟨p, 6 + c * 10 + 1, none⟩ = some (V.pend c) ∧ (∀ j, w2.frozen? ⟨p, j, none⟩ = false) ∧ Turn p w V w2 { V with pend := up V.pend c v } := by
 have s1 : Step p (.pend c) w V w2 { V with pend := up V.pend c v } := Step.of_grown (r0 := (.pend c)) (v := (V.pend c)) (v' := v) h.o hc (by simp) rfl g hn (by show (up V.pend c v c).ownBlock = _; rw [up_at]) (fun r hr => by cases r <;> first | rfl | (rename_i i; show (up V.pend c v i).ownBlock = _; rw [up_off _ _ (fun e => hr (by rw [e]))]; rfl))
 have O2 := h.o.st_pend hc (v := v) (l := l) ho s1
 have hbp : w2.heap[p]? = w.heap[p]? := g.block p h.b.lt fun e => absurd (h.o.apart .pool (.pend c) p trivial hc rfl e.symm) (by simp)
 have B2 := h.b.keep hbp
 have s3 := Step.cell (w := w2) (V := { V with pend := up V.pend c v }) (V' := { V with pend := up V.pend c v }) (p := p) v (6 + c * 10 + 1) fun _ => rfl
 exact ⟨⟨O2.st_same s3, (B2.set_pend hc v).same fun _ _ => rfl⟩, (s1.turn hc).trans (s3.turn trivial), B2.cellC (k := 1) hc (by decide), B2.frozen, s1.turn hc⟩
theorem PoolR.put_bad (h : PoolR w B p V ks M) {c : Nat} (hc : c < 6) {v : Value} {l : List Bool} (ho : OwnO w B 4 1 v l.length (badV l)) (hn : ∀ k, v.ownBlock = some k → (V.bad c).ownBlock = some k ∨ w.heap.size ≤ k) :
  PoolR (w.setCell ⟨p, 6 + c * 10 + 2, none⟩ v) B p { V with bad := up V.bad c v } ks { M with bad := up M.bad c l } ∧ Turn p w V (w.setCell ⟨p, 6 + c * 10 + 2, none⟩ v) { V with bad := up V.bad c v } := by
 have s := Step.store w V p (6 + c * 10 + 2) v (.bad c) (V' := { V with bad := up V.bad c v }) (fun r hr => by cases r <;> first | rfl | (rename_i i; show (up V.bad c v i).ownBlock = _; rw [up_off _ _ (fun e => hr (by rw [e]))]; rfl)) (fun k hk => by
  have hk : (up V.bad c v c).ownBlock = some k := hk
  rw [up_at] at hk
  exact hn k hk)
 have ho' : OwnO (w.setCell ⟨p, 6 + c * 10 + 2, none⟩ v) B 4 1 v l.length (badV l) := ho.keep fun k hk => Below.heap_setCell w ⟨p, 6 + c * 10 + 2, none⟩ v k (fun e => by
  have e : k = p := e
  rcases hn k hk with h1 | h1
  ·exact absurd (h.o.apart (.bad c) .pool k hc trivial h1 (by rw [e]; rfl)) (by simp)
  ·have := (ho.lt k hk).2
   omega)
 exact ⟨⟨h.o.st_bad hc ho' s, (h.b.set_bad hc v).same (fun _ _ => rfl)⟩, s.turn hc⟩
theorem PoolR.app_bad (h : PoolR w B p V ks M) {c : Nat} (hc : c < 6) {v : Value} {l : List Bool} (ho : OwnO w2 B 4 1 v l.length (badV l)) (g : w.grownBy w2 (V.bad c).ownBlock) (hn : v.ownBlock = (V.bad c).ownBlock ∨ v.ownBlock = some w.heap.size) :
  PoolR (w2.setCell ⟨p, 6 + c * 10 + 2, none⟩ v) B p { V with bad := up V.bad c v } ks { M with bad := up M.bad c l } ∧ Turn p w V (w2.setCell ⟨p, 6 + c * 10 + 2, none⟩ v) { V with bad := up V.bad c v } ∧ w2.cell? ⟨p, 6 + c * 10 + 2, none⟩ = some (V.bad c) ∧ (∀ j, w2.frozen? ⟨p, j, none⟩ = false) ∧ Turn p w V w2 { V with bad := up V.bad c v } := by
 have s1 : Step p (.bad c) w V w2 { V with bad := up V.bad c v } := Step.of_grown (r0 := (.bad c)) (v := (V.bad c)) (v' := v) h.o hc (by simp) rfl g hn (by show (up V.bad c v c).ownBlock = _; rw [up_at]) (fun r hr => by cases r <;> first | rfl | (rename_i i; show (up V.bad c v i).ownBlock = _; rw [up_off _ _ (fun e => hr (by rw [e]))]; rfl))
 have O2 := h.o.st_bad hc (v := v) (l := l) ho s1
 have hbp : w2.heap[p]? = w.heap[p]? := g.block p h.b.lt fun e => absurd (h.o.apart .pool (.bad c) p trivial hc rfl e.symm) (by simp)
 have B2 := h.b.keep hbp
 have s3 := Step.cell (w := w2) (V := { V with bad := up V.bad c v }) (V' := { V with bad := up V.bad c v }) (p := p) v (6 + c * 10 + 2) fun _ => rfl
 exact ⟨⟨O2.st_same s3, (B2.set_bad hc v).same fun _ _ => rfl⟩, (s1.turn hc).trans (s3.turn trivial), B2.cellC (k := 2) hc (by decide), B2.frozen, s1.turn hc⟩
theorem PoolR.put_wait (h : PoolR w B p V ks M) {v : Value} {l : List Nat} (ho : OwnO w B 3 1 v l.length (natV l)) (hn : ∀ k, v.ownBlock = some k → V.wait.ownBlock = some k ∨ w.heap.size ≤ k) :
  PoolR (w.setCell ⟨p, 66, none⟩ v) B p { V with wait := v } ks { M with wait := l } ∧ Turn p w V (w.setCell ⟨p, 66, none⟩ v) { V with wait := v } := by
 have s := Step.store w V p (66) v .wait (V' := { V with wait := v }) (fun r hr => by cases r <;> first | rfl | exact absurd rfl hr) (fun k hk => by
  have hk : v.ownBlock = some k := hk
  skip
  exact hn k hk)
 have ho' : OwnO (w.setCell ⟨p, 66, none⟩ v) B 3 1 v l.length (natV l) := ho.keep fun k hk => Below.heap_setCell w ⟨p, 66, none⟩ v k (fun e => by
  have e : k = p := e
  rcases hn k hk with h1 | h1
  ·exact absurd (h.o.apart .wait .pool k trivial trivial h1 (by rw [e]; rfl)) (by simp)
  ·have := (ho.lt k hk).2
   omega)
 exact ⟨⟨h.o.st_wait ho' s, (h.b.set_wait v).same (fun _ _ => rfl)⟩, s.turn trivial⟩
theorem PoolR.app_wait (h : PoolR w B p V ks M) {v : Value} {l : List Nat} (ho : OwnO w2 B 3 1 v l.length (natV l)) (g : w.grownBy w2 V.wait.ownBlock) (hn : v.ownBlock = V.wait.ownBlock ∨ v.ownBlock = some w.heap.size) :
  PoolR (w2.setCell ⟨p, 66, none⟩ v) B p { V with wait := v } ks { M with wait := l } ∧ Turn p w V (w2.setCell ⟨p, 66, none⟩ v) { V with wait := v } ∧ w2.cell? ⟨p, 66, none⟩ = some V.wait ∧ (∀ j, w2.frozen? ⟨p, j, none⟩ = false) ∧ Turn p w V w2 { V with wait := v } := by
 have s1 : Step p .wait w V w2 { V with wait := v } := Step.of_grown (r0 := .wait) (v := V.wait) (v' := v) h.o trivial (by simp) rfl g hn (rfl) (fun r hr => by cases r <;> first | rfl | exact absurd rfl hr)
 have O2 := h.o.st_wait (v := v) (l := l) ho s1
 have hbp : w2.heap[p]? = w.heap[p]? := g.block p h.b.lt fun e => absurd (h.o.apart .pool .wait p trivial trivial rfl e.symm) (by simp)
 have B2 := h.b.keep hbp
 have s3 := Step.cell (w := w2) (V := { V with wait := v }) (V' := { V with wait := v }) (p := p) v (66) fun _ => rfl
 exact ⟨⟨O2.st_same s3, (B2.set_wait v).same fun _ _ => rfl⟩, (s1.turn trivial).trans (s3.turn trivial), B2.cell (j := 66) (by decide), B2.frozen, s1.turn trivial⟩
theorem PoolR.app_deeds (h : PoolR w B p V ks M) {v : Value} {l : List De} (ho : OwnO w2 B 71 7 v l.length (deV l)) (g : w.grownBy w2 V.deeds.ownBlock) (hn : v.ownBlock = V.deeds.ownBlock ∨ v.ownBlock = some w.heap.size) :
  PoolR (w2.setCell ⟨p, 67, none⟩ v) B p { V with deeds := v } ks { M with deeds := l } ∧ Turn p w V (w2.setCell ⟨p, 67, none⟩ v) { V with deeds := v } ∧ w2.cell? ⟨p, 67, none⟩ = some V.deeds ∧ (∀ j, w2.frozen? ⟨p, j, none⟩ = false) ∧ Turn p w V w2 { V with deeds := v } := by
 have s1 : Step p .deeds w V w2 { V with deeds := v } := Step.of_grown (r0 := .deeds) (v := V.deeds) (v' := v) h.o trivial (by simp) rfl g hn (rfl) (fun r hr => by cases r <;> first | rfl | exact absurd rfl hr)
 have O2 := h.o.st_deeds (v := v) (l := l) ho s1
 have hbp : w2.heap[p]? = w.heap[p]? := g.block p h.b.lt fun e => absurd (h.o.apart .pool .deeds p trivial trivial rfl e.symm) (by simp)
 have B2 := h.b.keep hbp
 have s3 := Step.cell (w := w2) (V := { V with deeds := v }) (V' := { V with deeds := v }) (p := p) v (67) fun _ => rfl
 exact ⟨⟨O2.st_same s3, (B2.set_deeds v).same fun _ _ => rfl⟩, (s1.turn trivial).trans (s3.turn trivial), B2.cell (j := 67) (by decide), B2.frozen, s1.turn trivial⟩
theorem PoolR.drop (h : PoolR w B p V ks M) {c : Nat} (hc : c < 6) {x : St} {xs : List St} {y : Bool} {ys : List Bool} (hX : M.pend c = x :: xs) (hY : M.bad c = y :: ys) {A A' : Option Addr} {n k n' k' : Nat} (e1 : V.pend c = .slice A n k) (e2 : V.bad c = .slice A' n' k') :
  ∃ V', PoolR ((w.setCell ⟨p, 6 + c * 10 + 1, none⟩ (.slice (if k = 1 then A else A.map (·.add 3)) (n - 1) (k - 1))).setCell ⟨p, 6 + c * 10 + 2, none⟩ (.slice (if k' = 1 then A' else A'.map (·.add 1)) (n' - 1) (k' - 1))) B p V' ks (M.drop c xs ys) ∧
   Turn p w V ((w.setCell ⟨p, 6 + c * 10 + 1, none⟩ (.slice (if k = 1 then A else A.map (·.add 3)) (n - 1) (k - 1))).setCell ⟨p, 6 + c * 10 + 2, none⟩ (.slice (if k' = 1 then A' else A'.map (·.add 1)) (n' - 1) (k' - 1))) V' := by
 have own : ∀ {A : Option Addr} {n k m q : Nat} (j : Nat), (Value.slice (if k = 1 then A else A.map (·.add j)) m q).ownBlock = (Value.slice A n k).ownBlock := fun {A n k m q} j => by
  split
  ·cases A <;> rfl
  ·cases A with
   | none => rfl
   | some a =>
    show some (a.add j).block = some a.block
    rw [block_of_add]
 have o1 := h.o.pend c hc
 rw [hX, e1] at o1
 obtain ⟨_, _, en, _⟩ := o1.form
 injection en with _ en _
 subst en
 have c1 := o1.cut (k := 1) (by simp)
 have r1 := h.put_pend hc (v := .slice (if k = 1 then A else A.map (·.add 3)) ((x :: xs).length - 1) (k - 1)) (l := xs) (by simpa [stV] using c1) (fun q hq => .inl (by rw [e1, ← hq]; exact (own 3).symm))
 have o2 := r1.1.o.bad c hc
 rw [show ({ M with pend := up M.pend c xs } : MV).bad c = y :: ys from hY, show ({ V with pend := up V.pend c (.slice (if k = 1 then A else A.map (·.add 3)) ((x :: xs).length - 1) (k - 1)) } : PV).bad c = .slice A' n' k' from e2] at o2
 obtain ⟨_, _, en, _⟩ := o2.form
 injection en with _ en _
 subst en
 have c2 := o2.cut (k := 1) (by simp)
 have r2 := r1.1.put_bad hc (v := .slice (if k' = 1 then A' else A'.map (·.add 1)) ((y :: ys).length - 1) (k' - 1)) (l := ys) (by simpa [badV] using c2) (fun q hq => .inl (by rw [show ({ V with pend := up V.pend c (.slice (if k = 1 then A else A.map (·.add 3)) ((x :: xs).length - 1) (k - 1)) } : PV).bad c = .slice A' (y :: ys).length k' from e2, ← hq]; exact (own 1).symm))
 exact ⟨_, r2.1, r1.2.trans r2.2⟩
theorem deed_info : (Tryz.prog.info? 71).map (fun i => (i.zero, i.size, i.bytes)) = some (some (.agg #[.int .i64 0, .int .i64 0, .string ⟨#[]⟩, .string ⟨#[]⟩, .int .i64 0, .string ⟨#[]⟩, .int .i64 0]), 7, 80) := by kernel_rfl
theorem reads_one {g size : Nat} {t : TypeId} {cs : List Value} (h : Blk w g t cs.toArray) (hs : cs.length = size) : Reads w w.heap.size size (some ⟨g, 0, none⟩) 1 cs :=
 ⟨by omega, fun _ => ⟨_, rfl, h.lt, fun j u hj => by rw [Addr.add_lit, Nat.zero_add]; exact h.cell_ j u (by simpa using hj)⟩⟩
end
section
variable {f : Fr} {b : PB} {N : Nat}
theorem Ok.srv (h : Ok (f, b) N) {c : Nat} (hc : c < 6) (h0 : 0 ≤ (f.c c).srv) : ∃ s : Nat, (f.c c).srv = (s : Int) ∧ s < f.owner.length ∧ s < b.known.length ∧ s ≤ 1000 := by
 obtain ⟨w, rb⟩ := h.rb
 rcases h.fi.fo.cl c hc with h1 | ⟨s, h1, h2, _⟩
 ·exact absurd h1 (by show ¬ (f.c c).srv = -1; omega)
 ·have h3 := rb.kn
  have h4 := rb.ses
  have h5 := rb.good.few
  simp only at h1 h2 h3 h4 h5
  exact ⟨s, h2, h1, by omega, by omega⟩
theorem Ok.ses8 (h : Ok (f, b) N) : b.w.ses.length ≤ 8 := by
 obtain ⟨w, rb⟩ := h.rb
 exact rb.good.few
theorem Ok.own6 (h : Ok (f, b) N) : b.own.length = 6 := by
 obtain ⟨w, rb⟩ := h.rb
 exact rb.own6
theorem Ok.ow (h : Ok (f, b) N) {c : Nat} (hc : c < 6) : pairsB 9 6 (b.ow c).set = true ∧ pairsB 11 6 (b.ow c).pre = true ∧ 0 ≤ (b.ow c).st ∧ (b.ow c).st ≤ 2 := by
 obtain ⟨w, rb⟩ := h.rb
 rcases h.fi.fo.cl c hc with h1 | ⟨s, _, h2, _⟩
 ·obtain ⟨_, e, h3, h4⟩ := rb.loose c hc h1
  exact ⟨h3, h4, by rw [e]; exact Int.le_refl 0, by rw [e]; show (0 : Int) ≤ 2; decide⟩
 ·have hg := rb.goodSe h.fi.fo hc h2
  have e := (rb.bound c s hc h2).2
  rw [e]
  exact ⟨hg.set, hg.pre, hg.st0, hg.st2⟩
theorem Ok.sorted (h : Ok (f, b) N) {c : Nat} (hc : c < 6) : (Sorted (b.ow c).set ∧ Sorted (b.ow c).pre) ∧ (b.ow c).set.length < 4398046510976 ∧ (b.ow c).pre.length < 4398046510976 := by
 obtain ⟨h1, h2, _⟩ := h.ow hc
 obtain ⟨_, s1, l1⟩ := (pairs_iff _ _ _).1 h1
 obtain ⟨_, s2, l2⟩ := (pairs_iff _ _ _).1 h2
 exact ⟨⟨s1, s2⟩, by omega, by omega⟩
theorem Ok.text (h : Ok (f, b) N) {s : Nat} (x : St) : (poDo b.w s x).2.text.size ≤ maxLen := by
 obtain ⟨w, rb⟩ := h.rb
 unfold poDo
 split
 ·rename_i h0
  have hs : s < b.w.ses.length := by
   unfold doE at h0
   split at h0
   ·split at h0
    ·rename_i h1
     have := h1.2
     omega
    ·cases h0
   ·cases h0
  exact Nat.le_trans (ans_size (doW_ok rb.good hs x)) (by decide)
 ·show tLost.size ≤ maxLen
  decide
theorem deV_app (l : List De) (d : De) : deV (l ++ [d]) = deV l ++ deV [d] := by unfold deV; rw [List.flatMap_append]
theorem ready_srv {c : Nat} (h : ready f c = true) (hn : needs f c = true) : 0 ≤ (f.c c).srv := by
 unfold ready at h
 rw [hn] at h
 rw [Bool.and_eq_true] at h
 simpa using h.2
end
structure NextL (w0 wx : World) (B p : Nat) (V0 : PV) (M : MV) (z5 z8 : Option (Nat × Array Value)) : Prop where
 r : ∃ V' ks', PoolR wx B p V' ks' M ∧ Turn p w0 V0 wx V' ∧ ∀ y cs, z5 = some (y, cs) → ¬ V'.mine p y
 b5 : ∀ y cs, z5 = some (y, cs) → Blk wx y 41 cs ∧ w0.heap.size ≤ y
 b8 : ∀ y cs, z8 = some (y, cs) → Blk wx y 46 cs ∧ w0.heap.size ≤ y
section
variable {w0 wx wy : World} {B p : Nat} {V0 V1 : PV} {ks1 : List KV} {M M' : MV} {z5 z8 : Option (Nat × Array Value)}
theorem NextL.sz (h : NextL w0 wx B p V0 M z5 z8) : w0.heap.size ≤ wx.heap.size := by
 obtain ⟨_, _, _, t, _⟩ := h.r
 exact t.size
theorem NextL.start {ks0 : List KV} (h : PoolR w0 B p V0 ks0 M) : NextL w0 w0 B p V0 M none none :=
 ⟨⟨V0, ks0, h, Turn.refl _ _ _, fun _ _ h => (by cases h)⟩, fun _ _ h => (by cases h), fun _ _ h => (by cases h)⟩
theorem NextL.keep (h : NextL w0 wx B p V0 M z5 z8) (hb : Below wx.heap.size wx wy) : NextL w0 wy B p V0 M z5 z8 := by
 obtain ⟨V', ks', r, t, m⟩ := h.r
 exact ⟨⟨V', ks', r.below hb, t.below hb, m⟩, fun y cs e => ⟨(h.b5 y cs e).1.keep hb, (h.b5 y cs e).2⟩, fun y cs e => ⟨(h.b8 y cs e).1.keep hb, (h.b8 y cs e).2⟩⟩
theorem NextL.did (h5 : ∀ y cs, z5 = some (y, cs) → ¬ V1.mine p y) (r1 : PoolR wx B p V1 ks1 M) (t1 : Turn p w0 V0 wx V1) (b5 : ∀ y cs, z5 = some (y, cs) → Blk wx y 41 cs ∧ w0.heap.size ≤ y) (b8 : ∀ y cs, z8 = some (y, cs) → Blk wx y 46 cs ∧ w0.heap.size ≤ y)
  {V2 : PV} {ks2 : List KV} (r2 : PoolR wy B p V2 ks2 M') (t2 : Turn p wx V1 wy V2) : NextL w0 wy B p V0 M' z5 z8 :=
 ⟨⟨V2, ks2, r2, t1.trans t2, fun y cs e => t2.not (b5 y cs e).1.lt (h5 y cs e)⟩, fun y cs e => ⟨t2.box (b5 y cs e).1 (h5 y cs e), (b5 y cs e).2⟩, fun y cs e => ⟨t2.box (b8 y cs e).1 (r1.o.notBox (b8 y cs e).1 ty_ans), (b8 y cs e).2⟩⟩
theorem NextL.f5 (h : NextL w0 wx B p V0 M none z8) (cs : Array Value) : NextL w0 (wx.alloc (.cells cs 41)) B p V0 M (some (wx.heap.size, cs)) z8 := by
 have k := h.keep (boxed wx (.cells cs 41))
 obtain ⟨V', ks', r, t, m⟩ := h.r
 exact ⟨⟨V', ks', r.below (boxed _ _), t.below (boxed _ _), fun y cs e => (by injection e with e; injection e with e1 e2; subst e1; exact r.o.fresh (Nat.le_refl _))⟩,
  fun y cs e => (by injection e with e; injection e with e1 e2; subst e1 e2; exact ⟨Blk.new wx _ _, t.size⟩), k.b8⟩
theorem NextL.f8 (h : NextL w0 wx B p V0 M z5 none) (cs : Array Value) : NextL w0 (wx.alloc (.cells cs 46)) B p V0 M z5 (some (wx.heap.size, cs)) := by
 have k := h.keep (boxed wx (.cells cs 46))
 obtain ⟨V', ks', r, t, m⟩ := h.r
 exact ⟨k.r, k.b5, fun y cs e => (by injection e with e; injection e with e1 e2; subst e1 e2; exact ⟨Blk.new wx _ _, t.size⟩)⟩
theorem NextL.fin5 {y : Nat} {cs : Array Value} (h : NextL w0 wx B p V0 M (some (y, cs)) none) (a b c : Value) (e : wy = ((wx.setCell ⟨y, 0, none⟩ a).setCell ⟨y, 1, none⟩ b).setCell ⟨y, 2, none⟩ c) : NextL w0 wy B p V0 M (some (y, ((cs.setIfInBounds 0 a).setIfInBounds 1 b).setIfInBounds 2 c)) none := by
 subst e
 obtain ⟨V', ks', r, t, m⟩ := h.r
 obtain ⟨b5, l5⟩ := h.b5 _ _ rfl
 have hm := m _ _ rfl
 refine ⟨⟨V', ks', ((r.boxN b5 hm (by decide) (by decide) 0 a).boxN (b5.set_ 0 a) hm (by decide) (by decide) 1 b).boxN ((b5.set_ 0 a).set_ 1 b) hm (by decide) (by decide) 2 c, ((t.set_new l5 0 a).set_new l5 1 b).set_new l5 2 c, fun y cs e => ?_⟩, fun y cs e => ?_, fun _ _ e => (by cases e)⟩
 ·injection e with e
  injection e with e1 e2
  subst e1
  exact hm
 ·injection e with e
  injection e with e1 e2
  subst e1 e2
  exact ⟨((b5.set_ 0 a).set_ 1 b).set_ 2 c, l5⟩
theorem NextL.fin8 {y : Nat} {cs : Array Value} (h : NextL w0 wx B p V0 M z5 (some (y, cs))) (a b c : Value) (e : wy = ((wx.setCell ⟨y, 0, none⟩ a).setCell ⟨y, 1, none⟩ b).setCell ⟨y, 2, none⟩ c) : NextL w0 wy B p V0 M z5 (some (y, ((cs.setIfInBounds 0 a).setIfInBounds 1 b).setIfInBounds 2 c)) := by
 subst e
 obtain ⟨V', ks', r, t, m⟩ := h.r
 obtain ⟨b8, l8⟩ := h.b8 _ _ rfl
 refine ⟨⟨V', ks', ((r.box b8 ty_ans (by decide) (by decide) 0 a).box (b8.set_ 0 a) ty_ans (by decide) (by decide) 1 b).box ((b8.set_ 0 a).set_ 1 b) ty_ans (by decide) (by decide) 2 c, ((t.set_new l8 0 a).set_new l8 1 b).set_new l8 2 c, m⟩, fun z ds e => ?_, fun z ds e => ?_⟩
 ·obtain ⟨b5, l5⟩ := h.b5 z ds e
  have ne : z ≠ y := b5.ne_ b8 (by decide)
  exact ⟨((b5.far (p := ⟨y, 0, none⟩) ne a).far (p := ⟨y, 1, none⟩) ne b).far (p := ⟨y, 2, none⟩) ne c, l5⟩
 ·injection e with e
  injection e with e1 e2
  subst e1 e2
  exact ⟨((b8.set_ 0 a).set_ 1 b).set_ 2 c, l8⟩
end
end Go.Proofs.YtjbnfigpflambacGreatDoor
