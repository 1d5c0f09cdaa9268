/- (server).end: a transaction is done, or undone. (server).transaction: statements that begin and end one. (server).put: a row is put. -/
import Derived.Test.YtjbnfigpflambacGreatDoorG15
/- (server).end: a transaction is done, or undone. -/
namespace Go.Proofs.YtjbnfigpflambacGreatDoor
open Go.ChangeShapes Go.WideShapes Go.ChangeAt Go.RowKit
theorem plusAll_snoc (l m : List Pr) (p : Pr) : plusAll l (m ++ [p]) = plusP (plusAll l m) p.k p.v := by unfold plusAll; rw [List.foldl_append]; rfl
theorem plusAll_sorted {l : List Pr} (h : Sorted l) : ∀ m : List Pr, Sorted (plusAll l m) ∧ (plusAll l m).length ≤ l.length + m.length := by
 intro m
 induction m generalizing l with
 | nil => exact ⟨h, Nat.le_refl _⟩
 | cons p m ih =>
  have h1 := ih (plus_sorted h p.k p.v)
  refine ⟨h1.1, Nat.le_trans h1.2 ?_⟩
  rw [plus_length l p.k p.v h, List.length_cons]
  split <;> omega
def EndR (w0 w : World) (bv bw g cap i : Nat) (W : Wo) (e : Ending) (w' : World) : Prop := e = .returned (.tuple #[]) ∧ SvAt w0 w' bv bw g cap i W ∧ Only2 bw g w w'
set_option maxHeartbeats 4000000 in
set_option maxRecDepth 100000 in
theorem end_no (w0 w : World) (bv bw g cap i : Nat) (W : Wo) (hS : SvAt w0 w bv bw g cap i W) (_hG : W.ses.length ≤ 8) :
  Calls Tryz.prog 123 #[.pointer (some ⟨bv, 0, none⟩), .bool false] w (EndR w0 w bv bw g cap i (endW W i false)) := by
 have hi := hS.hi
 obtain ⟨Ar, cr, A1, k1, A2, k2, A3, k3, A4, k4, V⟩ := hS.view
 have HS := Lib.hid (hS.keep (Below.refl _ _).drew)
 have V0 := Lib.hid (V.keep (Below.refl _ _).drew)
 have HO := Lib.hid ((Only2.refl bw g w).drew)
 obtain ⟨n, hn⟩ : ∃ n, W.ses.length = n := ⟨_, rfl⟩
 rw [hn] at V0 hi
 have g1 : (i : Int) < (n : Int) := by omega
 have g2 : (0 : Int) ≤ (i : Int) := by omega
 clear hS V hn
 go_enter Tryz.func123, Tryz.ntmps123
 go_wp2_with fail
 have s0 := V0.out.s0
 have s1 := V0.out.s1
 have b1 := V0.out.b1
 refine region_segs [] (by kernel_rfl) ?_
 refine anyB_seg [0, 1, 2, 3, 4, 5, 6, 7, 8, 9, 10, 11, 12] 0 rfl (by kernel_rfl) (by kernel_rfl) (by kernel_rfl) (fun _ _ d _ _ h => by cases d <;> exact h) ?_
 simp only [pickOps, List.getElem?_toArray, List.getElem?_cons_zero, List.getElem?_cons_succ]
 go_wp2_with fail
 refine ⟨rfl, by rfl, ?_⟩
 refine anyB_done (by kernel_rfl) ?_ _
 clear s0 s1 b1
 generalize w.drew = x at HS V0 HO ⊢
 have c1 := V0.out.c1
 have c3 := V0.out.c3
 have c0 := V0.out.c0
 have c4 := V0.out.c4
 have fg := V0.out.fg
 have H1 := Lib.hid (HS.out.put_ (j := 1) (u := .slice A3 (W.se i).sav.length k3) (s' := ⟨(W.se i).st, (W.se i).sav, (W.se i).pre, (W.se i).sav, (W.se i).wri⟩) (by decide) fun w' a b c d hk h1 h2 h3 h4 => ⟨_, b, c, d, rfl, V0.out.o3.keeps hk, h2, h3, h4, HS.out.st64⟩)
 go_wp2_with fail
 refine bodyPost_ret (results_none rfl _ _ _) rfl ⟨rfl, ?_, (((HO.out.set_ (.inr rfl) _).set_ (.inr rfl) _).set_ (.inr rfl) _).set_ (.inr rfl) _⟩
 have h := H1.out.fin3
 rw [put_self W HS.out.hi, put_put] at h
 exact h
structure LpAt (w0 w wx : World) (bv bw g cap i : Nat) (W : Wo) (A4 : Option Addr) (m k4 k : Nat) : Prop where
 sv : SvAt w0 wx bv bw g cap i ⟨plusAll W.rows ((W.se i).wri.take k), W.ses⟩
 only : Only2 bw g w wx
 wri : OPL wx w0.heap.size (.slice A4 m k4) (W.se i).wri
theorem LpAt.keep {w0 w wx wy : World} {bv bw g cap i m k4 k : Nat} {W : Wo} {A4 : Option Addr} (h : LpAt w0 w wx bv bw g cap i W A4 m k4 k) (hb : Below wx.heap.size wx wy) : LpAt w0 w wy bv bw g cap i W A4 m k4 k :=
 ⟨h.sv.keep hb, h.only.below hb, h.wri.keeps (.of_below hb)⟩
set_option maxHeartbeats 8000000 in
set_option maxRecDepth 100000 in
theorem end_yes (w0 w : World) (bv bw g cap i : Nat) (W : Wo) (hS : SvAt w0 w bv bw g cap i W) (hG : Good W) :
  Calls Tryz.prog 123 #[.pointer (some ⟨bv, 0, none⟩), .bool true] w (EndR w0 w bv bw g cap i (endW W i true)) := by
 have hi := hS.hi
 have hfew := hG.few
 have gse := hG.se hi
 have hrl : W.rows.length ≤ 100 := ((pairs_iff _ _ _).1 hG.rows).2.2
 have hwl : (W.se i).wri.length ≤ 100 := ((pairs_iff _ _ _).1 gse.wri).2.2
 have hrs := hG.rowsS
 obtain ⟨Ar, cr, A1, k1, A2, k2, A3, k3, A4, k4, V⟩ := hS.view
 have HS := Lib.hid (hS.keep (Below.refl _ _).drew)
 have V0 := Lib.hid (V.keep (Below.refl _ _).drew)
 have HO := Lib.hid ((Only2.refl bw g w).drew)
 have HRS := Lib.hid hrs
 have L0 := Lib.hid (LpAt.mk (w0 := w0) (k := 0) (W := W) (by rw [List.take_zero]; exact hS.keep (Below.refl _ _).drew) ((Only2.refl bw g w).drew) (V.keep (Below.refl _ _).drew).o4)
 obtain ⟨n, hn⟩ : ∃ n, W.ses.length = n := ⟨_, rfl⟩
 obtain ⟨m, hm⟩ : ∃ m, (W.se i).wri.length = m := ⟨_, rfl⟩
 rw [hn] at V0 hi hfew
 rw [hm] at L0 hwl
 have HN := Lib.hid hn
 have HM := Lib.hid hm
 have g1 : (i : Int) < (n : Int) := by omega
 have g2 : (0 : Int) ≤ (i : Int) := by omega
 have c4 := V0.out.c4
 rw [hm] at c4
 have C4 := Lib.hid c4
 clear hS V hn hm hG gse hrs c4
 go_enter Tryz.func123, Tryz.ntmps123
 go_wp2_with fail
 have s0 := V0.out.s0
 have s1 := V0.out.s1
 have b1 := V0.out.b1
 refine region_segs [] (by kernel_rfl) ?_
 refine anyB_seg [0, 1, 2, 3, 4, 5, 6, 7, 8, 9, 10, 11, 12] 0 rfl (by kernel_rfl) (by kernel_rfl) (by kernel_rfl) (fun _ _ d _ _ h => by cases d <;> exact h) ?_
 simp only [pickOps, List.getElem?_toArray, List.getElem?_cons_zero, List.getElem?_cons_succ]
 go_wp2_with fail
 refine ⟨rfl, by rfl, ?_⟩
 refine anyB_done (by kernel_rfl) ?_ _
 clear s0 s1 b1
 generalize w.drew = x at HS V0 HO L0 C4 ⊢
 have c4 := C4.out
 go_wp2_with fail
 go_loopw [25] (fun q wx => ∃ k : Nat, k ≤ m ∧ q = .int .i64 k ∧ LpAt w0 w wx bv bw g cap i W A4 m k4 k) (fun q _ => m - (intOf q).toNat)
 case atStart => exact ⟨0, Nat.zero_le _, rfl, L0.out⟩
 case round =>
  obtain ⟨k, hk, rfl, hL⟩ := hrel
  clear c4
  by_cases hlt : k < m
  ·have hkl : k < (W.se i).wri.length := by rw [HM.out]; exact hlt
   obtain ⟨A5, c5, e5, _, hr5, hf5⟩ := hL.wri.pl
   injection e5 with e6 e7 e8
   subst e6
   obtain ⟨ad, hA, hBl, x1, x2⟩ := pair_at hr5 hkl
   subst hA
   obtain ⟨p, hp⟩ : ∃ p, (W.se i).wri[k] = p := ⟨_, rfl⟩
   rw [hp] at x1 x2
   have hpf := hf5.2 p (by rw [← hp]; exact List.getElem_mem hkl)
   have HPF := Lib.hid hpf
   have htk : (W.se i).wri.take (k + 1) = (W.se i).wri.take k ++ [p] := by rw [List.take_succ_eq_append_getElem hkl, hp]
   have hR := plusAll_sorted HRS.out ((W.se i).wri.take k)
   have hRl : (plusAll W.rows ((W.se i).wri.take k)).length ≤ 1000 := by have := hR.2; rw [List.length_take] at this; omega
   have HR := Lib.hid hR.1
   have HTK := Lib.hid (show plusAll W.rows ((W.se i).wri.take (k + 1)) = plusP (plusAll W.rows ((W.se i).wri.take k)) p.k p.v by rw [htk, plusAll_snoc])
   obtain ⟨R, hRe⟩ : ∃ R, plusAll W.rows ((W.se i).wri.take k) = R := ⟨_, rfl⟩
   rw [hRe] at HR HTK hRl
   have hL2 := hL.keep (boxed _ (.cells #[.string p.k, .string p.v] 60))
   obtain ⟨Br, er, B1, j1, B2, j2, B3, j3, B4, j4, V1⟩ := hL2.sv.view
   have PB := Lib.hid (Blk.new wr 60 #[.string p.k, .string p.v])
   have L1 := Lib.hid hL2
   have V2 := Lib.hid V1
   have hL2S := hL2.sv
   rw [hRe] at V2
   have g3 : (k : Int) < (m : Int) := by omega
   have g4 : (0 : Int) ≤ (k : Int) := by omega
   clear hL hr5 hf5 hp hpf htk hR hRe hL2 V1 hL2S hkl hBl e8 e7
   go_upto_region 5 with fail
   obtain ⟨pb, hpb⟩ : ∃ pb, wr.heap.size = pb := ⟨_, rfl⟩
   rw [hpb] at PB ⊢
   clear hpb
   generalize wr.alloc (.cells #[.string p.k, .string p.v] 60) = y0 at L1 V2 PB ⊢
   have s0 := (V2.out.keep (Below.refl _ _).drew).s0
   have b0 := (V2.out.keep (Below.refl _ _).drew).b0
   have p0 := PB.out.drew.cell_ 0 _ rfl
   have p1 := PB.out.drew.cell_ 1 _ rfl
   clear x1 x2
   refine region_segs [18] (by kernel_rfl) ?_
   refine anyB_seg [0, 1, 2, 3, 4, 5, 6, 7, 8, 9, 10, 11, 12, 13, 14] 4 rfl (by kernel_rfl) (by kernel_rfl) (by kernel_rfl) (fun _ _ d _ _ h => by cases d <;> exact h) ?_
   simp only [pickOps, List.getElem?_toArray, List.getElem?_cons_zero, List.getElem?_cons_succ]
   go_wp2_with fail
   refine ⟨rfl, by rfl, ?_⟩
   refine anyB_one (i := 15) (by kernel_rfl) rfl (fun K hK => ?_)
   go_simp
   have L2 := Lib.hid (L1.out.keep (Below.refl _ _).drew)
   have V3 := Lib.hid (V2.out.keep (Below.refl _ _).drew)
   clear s0 b0 p0 p1
   generalize y0.drew = y1 at L2 V3 hK ⊢
   clear L1 V2 PB
   refine (with_any _ _ R p.k p.v V3.out.o0.pl HR.out (by omega) HPF.out.1 HPF.out.2).mono ?_
   rintro e y2 ⟨u9, rfl, o9, b9⟩
   refine hK.out _ _ (fun _ => b9) ?_
   clear hK K
   have L3 := Lib.hid (L2.out.keep b9)
   have V4 := Lib.hid (V3.out.keep b9)
   have O9 := Lib.hid (o9.base L2.out.sv.bel.size)
   obtain ⟨A9, k9, rfl⟩ := o9.form
   obtain ⟨m9, hm9⟩ : ∃ m9, (plusP R p.k p.v).length = m9 := ⟨_, rfl⟩
   rw [hm9] at O9 ⊢
   clear o9 b9 hm9 L2 V3
   refine anyB_seg [16, 17] 1 rfl (by kernel_rfl) (by kernel_rfl) (by kernel_rfl) (fun _ _ d _ _ h => by cases d <;> exact h) ?_
   simp only [pickOps, List.getElem?_toArray, List.getElem?_cons_zero, List.getElem?_cons_succ]
   go_wp2_with fail
   refine ⟨rfl, by rfl, ?_⟩
   have b0 := V4.out.b0
   have fb := V4.out.fb
   refine anyB_one (i := 18) (by kernel_rfl) rfl (fun K hK => ?_)
   go_simp
   have L4 : Hid (LpAt w0 w (y2.setCell ⟨bw, 0, none⟩ (.slice A9 m9 k9)) bv bw g cap i W (some ad) m k4 (k + 1)) := by
    obtain ⟨r, h1, _⟩ := L3.out.sv.box
    have kp := Keeps.set_ (t' := 39) (t := 60) (p := ⟨bw, 0, none⟩) h1 (by decide) (.slice A9 m9 k9)
    refine Lib.hid ⟨?_, L3.out.only.set_ (.inl rfl) _, L3.out.wri.keeps kp⟩
    rw [HTK.out]
    exact L3.out.sv.rows_new (Below.refl _ _) (O9.out.keeps kp)
   refine hK.out _ _ (fun h => absurd (by decide) h) ?_
   clear hK K
   refine anyB_done (by kernel_rfl) ?_ _
   clear b0 fb
   go_wp2_with fail
   go_roundw
   case rel => exact ⟨k + 1, by omega, by go_num, L4.out⟩
   case measure => simp [intOf]; omega
  ·obtain rfl : k = m := by omega
   have e0 : (W.se i).wri.take k = (W.se i).wri := List.take_of_length_le (by rw [HM.out]; exact Nat.le_refl _)
   have hsv := hL.sv
   rw [e0] at hsv
   have ho := hL.only
   obtain ⟨Br, er, B1, j1, B2, j2, B3, j3, B4, j4, V1⟩ := hsv.view
   have c0 := V1.c0
   have c3 := V1.c3
   have c4 := V1.c4
   have fg := V1.fg
   have HF := Lib.hid hsv.fin3
   have HO2 := Lib.hid ho
   clear hL hsv ho V1 e0
   go_wp2_with fail
   refine bodyPost_ret (results_none rfl _ _ _) rfl ⟨rfl, HF.out, ((HO2.out.set_ (.inr rfl) _).set_ (.inr rfl) _).set_ (.inr rfl) _⟩
end Go.Proofs.YtjbnfigpflambacGreatDoor
/- (server).transaction: statements that begin and end one. -/
namespace Go.Proofs.YtjbnfigpflambacGreatDoor
open Go.ChangeShapes Go.WideShapes Go.ChangeAt Go.RowKit
set_option maxHeartbeats 8000000 in
set_option maxRecDepth 100000 in
theorem trans_any (w0 w : World) (bv bw g cap i : Nat) (W : Wo) (k : Int) (hS : SvAt w0 w bv bw g cap i W) (hG : Good W) (hk : k = 1 ∨ k = 2 ∨ k = 3) :
  Calls Tryz.prog 95 #[.pointer (some ⟨bv, 0, none⟩), .int .i64 k] w (SvR w0 w bv bw g cap i (transW W i k)) := by
 have HG := Lib.hid hG
 have hfew := hG.few
 have hi := hS.hi
 have D0 := Lib.hid (Mth.start hS)
 obtain ⟨Ar, cr, A1, k1, A2, k2, A3, k3, A4, k4, V⟩ := hS.view
 have V0 := Lib.hid (V.keep (boxed w (.cells #[.int .i64 0, .string ⟨#[]⟩, .int .i64 0] 46)))
 obtain ⟨n, hn⟩ : ∃ n, W.ses.length = n := ⟨_, rfl⟩
 rw [hn] at V0 hi hfew
 have HN := Lib.hid hn
 obtain ⟨b, hb⟩ : ∃ b, w.heap.size = b := ⟨_, rfl⟩
 rw [hb] at D0
 have g1 : (i : Int) < (n : Int) := by omega
 have g2 : (0 : Int) ≤ (i : Int) := by omega
 clear hG hS V hn
 go_enter Tryz.func95, Tryz.ntmps95
 go_wp2_with fail
 generalize w.alloc (.cells #[.int .i64 0, .string ⟨#[]⟩, .int .i64 0] 46 (0, 0)) = x0 at D0 V0 ⊢
 clear hb
 have s0 := (V0.out.keep (Below.refl _ _).drew).s0
 have s1 := (V0.out.keep (Below.refl _ _).drew).s1
 have b1 := (V0.out.keep (Below.refl _ _).drew).b1
 refine region_segs [] (by kernel_rfl) ?_
 refine anyB_seg [0, 1, 2, 3, 4, 5, 6, 7, 8, 9, 10, 11, 12] 0 rfl (by kernel_rfl) (by kernel_rfl) (by kernel_rfl) (fun _ _ d _ _ h => by cases d <;> exact h) ?_
 simp only [pickOps, List.getElem?_toArray, List.getElem?_cons_zero, List.getElem?_cons_succ]
 go_wp2_with fail
 refine ⟨rfl, by rfl, ?_⟩
 refine anyB_done (by kernel_rfl) ?_ _
 have D1 := Lib.hid (D0.out.keep (Below.refl _ _).drew)
 have V1 := Lib.hid (V0.out.keep (Below.refl _ _).drew)
 clear s0 s1 b1
 generalize x0.drew = x1 at D1 V1 ⊢
 clear D0 V0
 have c0 := V1.out.c0
 by_cases hk1 : k = 1
 ·subst hk1
  by_cases h0 : (W.se i).st = 0
  ·have HRR := Lib.hid (show transW W i 1 = (W.put i ⟨1, (W.se i).set, (W.se i).pre, (W.se i).set, (W.se i).wri⟩, okA) by unfold transW; rw [if_pos ⟨rfl, h0⟩])
   have g3 : ((W.se i).st == 0) = true := by simpa using h0
   have c1 := V1.out.c1
   clear h0 hk
   go_wp2_with fail
   refine (clone_own _ w0.heap.size _ (W.se i).set V1.out.o1.pl D1.out.sv.bel.size).mono ?_
   rintro e x4 ⟨u4, rfl, o4, b4⟩
   have D4 := Lib.hid (D1.out.keep b4)
   have V4 := Lib.hid (V1.out.keep b4)
   obtain ⟨A8, k8, rfl⟩ := o4.form
   have O4 := Lib.hid o4
   have c0' := V4.out.c0
   have c3' := V4.out.c3
   have fg := V4.out.fg
   have D5 := Lib.hid (D4.out.begin_ O4.out)
   have z0 := D4.out.res.cell_ 0 _ rfl
   have z1 := D4.out.res.cell_ 1 _ rfl
   have z2 := D4.out.res.cell_ 2 _ rfl
   have fz := D4.out.res.frozen
   have ng := D4.out.ng
   clear b4 c0 c1 o4
   go_wp2_with fail
   have RB := (((D5.out.res).set_ 0 (.int .i64 1)).set_ 1 (.string ⟨#[]⟩)).set_ 2 (.int .i64 0)
   have t0 := RB.cell_ 0 _ rfl
   have t1 := RB.cell_ 1 _ rfl
   have t2 := RB.cell_ 2 _ rfl
   clear z0 z1 z2 fz
   refine bodyPost_ret (v := .agg #[.int .i64 1, .string ⟨#[]⟩, .int .i64 0]) (by simp [results, Tryz.results95, go_sem, t0, t1, t2]) rfl ?_
   rw [HRR.out]
   exact D5.out.fin (_, okA) rfl _ _ _ _ rfl
  ·have g3 : ((W.se i).st == 0) = false := by simpa using h0
   have HRR := Lib.hid (show transW W i 1 = (W, noA tBegun) by unfold transW; rw [if_neg (fun h => h0 h.2), if_pos rfl])
   clear hk
   go_wp2_with fail
   refine (failed_any _ _).mono ?_
   rintro e x4 ⟨rfl, b4⟩
   have D4 := Lib.hid (D1.out.keep b4)
   have z0 := D4.out.res.cell_ 0 _ rfl
   have z1 := D4.out.res.cell_ 1 _ rfl
   have z2 := D4.out.res.cell_ 2 _ rfl
   have fz := D4.out.res.frozen
   clear b4 c0
   go_wp2_with fail
   have RB := (((D4.out.res).set_ 0 (.int .i64 4)).set_ 1 (.string ⟨#[98, 101, 103, 117, 110, 32, 97, 108, 114, 101, 97, 100, 121]⟩)).set_ 2 (.int .i64 0)
   have t0 := RB.cell_ 0 _ rfl
   have t1 := RB.cell_ 1 _ rfl
   have t2 := RB.cell_ 2 _ rfl
   clear z0 z1 z2 fz
   refine bodyPost_ret (v := .agg #[.int .i64 4, .string ⟨#[98, 101, 103, 117, 110, 32, 97, 108, 114, 101, 97, 100, 121]⟩, .int .i64 0]) (by simp [results, Tryz.results95, go_sem, t0, t1, t2]) rfl ?_
   rw [HRR.out]
   exact D4.out.fin (W, noA tBegun) rfl _ _ _ _ rfl

 have q1 : (k == 1) = false := by simpa using hk1
 by_cases h0 : (W.se i).st = 0
 ·have g3 : ((W.se i).st == 0) = true := by simpa using h0
  have HRR := Lib.hid (show transW W i k = (W, noA tNoTx) by unfold transW; rw [if_neg (fun h => hk1 h.1), if_neg hk1, if_pos h0])
  clear hk
  go_wp2_with fail
  refine (failed_any _ _).mono ?_
  rintro e x4 ⟨rfl, b4⟩
  have D4 := Lib.hid (D1.out.keep b4)
  have z0 := D4.out.res.cell_ 0 _ rfl
  have z1 := D4.out.res.cell_ 1 _ rfl
  have z2 := D4.out.res.cell_ 2 _ rfl
  have fz := D4.out.res.frozen
  clear b4 c0
  go_wp2_with fail
  have RB := (((D4.out.res).set_ 0 (.int .i64 4)).set_ 1 (.string ⟨#[110, 111, 32, 116, 114, 97, 110, 115, 97, 99, 116, 105, 111, 110]⟩)).set_ 2 (.int .i64 0)
  have t0 := RB.cell_ 0 _ rfl
  have t1 := RB.cell_ 1 _ rfl
  have t2 := RB.cell_ 2 _ rfl
  clear z0 z1 z2 fz
  refine bodyPost_ret (v := .agg #[.int .i64 4, .string ⟨#[110, 111, 32, 116, 114, 97, 110, 115, 97, 99, 116, 105, 111, 110]⟩, .int .i64 0]) (by simp [results, Tryz.results95, go_sem, t0, t1, t2]) rfl ?_
  rw [HRR.out]
  exact D4.out.fin (W, noA tNoTx) rfl _ _ _ _ rfl

 have g3 : ((W.se i).st == 0) = false := by simpa using h0
 by_cases h2 : k = 2
 ·have q2 : (k == 2) = true := by simpa using h2
  by_cases h1 : (W.se i).st = 1
  ·have g4 : ((W.se i).st == 1) = true := by simpa using h1
   have HRR := Lib.hid (show transW W i k = (endW W i true, okA) by unfold transW; rw [if_neg (fun h => hk1 h.1), if_neg hk1, if_neg h0]; simp [h2, h1])
   clear hk
   go_wp2_with fail
   refine (end_yes w0 _ bv bw g cap i W D1.out.sv HG.out).mono ?_
   rintro e x4 ⟨rfl, sv4, o4⟩
   have D4 := Lib.hid (D1.out.step sv4 o4)
   have z0 := D4.out.res.cell_ 0 _ rfl
   have z1 := D4.out.res.cell_ 1 _ rfl
   have z2 := D4.out.res.cell_ 2 _ rfl
   have fz := D4.out.res.frozen
   clear sv4 o4 c0
   go_wp2_with fail
   have RB := (((D4.out.res).set_ 0 (.int .i64 1)).set_ 1 (.string ⟨#[]⟩)).set_ 2 (.int .i64 0)
   have t0 := RB.cell_ 0 _ rfl
   have t1 := RB.cell_ 1 _ rfl
   have t2 := RB.cell_ 2 _ rfl
   clear z0 z1 z2 fz
   refine bodyPost_ret (v := .agg #[.int .i64 1, .string ⟨#[]⟩, .int .i64 0]) (by simp [results, Tryz.results95, go_sem, t0, t1, t2]) rfl ?_
   rw [HRR.out]
   exact D4.out.fin (_, okA) rfl _ _ _ _ rfl

  ·have g4 : ((W.se i).st == 1) = false := by simpa using h1
   have HRR := Lib.hid (show transW W i k = (endW W i false, okA) by unfold transW; rw [if_neg (fun h => hk1 h.1), if_neg hk1, if_neg h0]; simp [h1])
   clear hk
   go_wp2_with fail
   refine (end_no w0 _ bv bw g cap i W D1.out.sv HG.out.few).mono ?_
   rintro e x4 ⟨rfl, sv4, o4⟩
   have D4 := Lib.hid (D1.out.step sv4 o4)
   have z0 := D4.out.res.cell_ 0 _ rfl
   have z1 := D4.out.res.cell_ 1 _ rfl
   have z2 := D4.out.res.cell_ 2 _ rfl
   have fz := D4.out.res.frozen
   clear sv4 o4 c0
   go_wp2_with fail
   have RB := (((D4.out.res).set_ 0 (.int .i64 1)).set_ 1 (.string ⟨#[]⟩)).set_ 2 (.int .i64 0)
   have t0 := RB.cell_ 0 _ rfl
   have t1 := RB.cell_ 1 _ rfl
   have t2 := RB.cell_ 2 _ rfl
   clear z0 z1 z2 fz
   refine bodyPost_ret (v := .agg #[.int .i64 1, .string ⟨#[]⟩, .int .i64 0]) (by simp [results, Tryz.results95, go_sem, t0, t1, t2]) rfl ?_
   rw [HRR.out]
   exact D4.out.fin (_, okA) rfl _ _ _ _ rfl

 ·have q2 : (k == 2) = false := by simpa using h2
  have HRR := Lib.hid (show transW W i k = (endW W i false, okA) by unfold transW; rw [if_neg (fun h => hk1 h.1), if_neg hk1, if_neg h0]; simp [h2])
  clear hk
  go_wp2_with fail
  refine (end_no w0 _ bv bw g cap i W D1.out.sv HG.out.few).mono ?_
  rintro e x4 ⟨rfl, sv4, o4⟩
  have D4 := Lib.hid (D1.out.step sv4 o4)
  have z0 := D4.out.res.cell_ 0 _ rfl
  have z1 := D4.out.res.cell_ 1 _ rfl
  have z2 := D4.out.res.cell_ 2 _ rfl
  have fz := D4.out.res.frozen
  clear sv4 o4 c0
  go_wp2_with fail
  have RB := (((D4.out.res).set_ 0 (.int .i64 1)).set_ 1 (.string ⟨#[]⟩)).set_ 2 (.int .i64 0)
  have t0 := RB.cell_ 0 _ rfl
  have t1 := RB.cell_ 1 _ rfl
  have t2 := RB.cell_ 2 _ rfl
  clear z0 z1 z2 fz
  refine bodyPost_ret (v := .agg #[.int .i64 1, .string ⟨#[]⟩, .int .i64 0]) (by simp [results, Tryz.results95, go_sem, t0, t1, t2]) rfl ?_
  rw [HRR.out]
  exact D4.out.fin (_, okA) rfl _ _ _ _ rfl
end Go.Proofs.YtjbnfigpflambacGreatDoor
/- (server).put: a row is put. -/
namespace Go.Proofs.YtjbnfigpflambacGreatDoor
open Go.ChangeShapes Go.WideShapes Go.ChangeAt Go.RowKit
set_option maxHeartbeats 4000000 in
set_option maxRecDepth 100000 in
theorem put_any (w0 w : World) (bv bw g cap i : Nat) (W : Wo) (k v : ByteArray) (hS : SvAt w0 w bv bw g cap i W) (hG : Good W) (hk : k.size ≤ maxLen) (hv : v.size ≤ maxLen) :
  Calls Tryz.prog 99 #[.pointer (some ⟨bv, 0, none⟩), .string k, .string v] w (SvR w0 w bv bw g cap i (putW W i k v)) := by
 have HG := Lib.hid hG
 have HKV := Lib.hid (And.intro hk hv)
 have hfew := hG.few
 have hi := hS.hi
 have hsl := hS.sl (by have := hG.few; omega)
 have D0 := Lib.hid (Mth.start hS)
 obtain ⟨Ar, cr, A1, k1, A2, k2, A3, k3, A4, k4, V⟩ := hS.view
 have V0 := Lib.hid (V.keep (boxed w (.cells #[.int .i64 0, .string ⟨#[]⟩, .int .i64 0] 46)))
 obtain ⟨n, hn⟩ : ∃ n, W.ses.length = n := ⟨_, rfl⟩
 rw [hn] at V0 hi hfew
 have HN := Lib.hid hn
 obtain ⟨b, hb⟩ : ∃ b, w.heap.size = b := ⟨_, rfl⟩
 rw [hb] at D0
 have HB := Lib.hid hb
 have HS := Lib.hid hS
 have g1 : (i : Int) < (n : Int) := by omega
 have g2 : (0 : Int) ≤ (i : Int) := by omega
 clear hG hk hv hS V hn hsl
 go_enter Tryz.func99, Tryz.ntmps99
 go_wp2_with fail
 generalize w.alloc (.cells #[.int .i64 0, .string ⟨#[]⟩, .int .i64 0] 46 (0, 0)) = x0 at D0 V0 ⊢
 clear HB hb
 have s0 := (V0.out.keep (Below.refl _ _).drew).s0
 have s1 := (V0.out.keep (Below.refl _ _).drew).s1
 have b0 := (V0.out.keep (Below.refl _ _).drew).b0
 have b1 := (V0.out.keep (Below.refl _ _).drew).b1
 refine region_segs [] (by kernel_rfl) ?_
 refine anyB_seg [0, 1, 2, 3, 4, 5, 6, 7, 8, 9, 10, 11, 12] 0 rfl (by kernel_rfl) (by kernel_rfl) (by kernel_rfl) (fun _ _ d _ _ h => by cases d <;> exact h) ?_
 simp only [pickOps, List.getElem?_toArray, List.getElem?_cons_zero, List.getElem?_cons_succ]
 go_wp2_with fail
 refine ⟨rfl, by rfl, ?_⟩
 refine anyB_done (by kernel_rfl) ?_ _
 have D1 := Lib.hid (D0.out.keep (Below.refl _ _).drew)
 have V1 := Lib.hid (V0.out.keep (Below.refl _ _).drew)
 clear s0 s1 b0 b1
 generalize x0.drew = x1 at D1 V1 ⊢
 clear D0 V0
 go_wp2_with fail
 have s0 := (V1.out.keep (Below.refl _ _).drew).s0
 have s1 := (V1.out.keep (Below.refl _ _).drew).s1
 have b0 := (V1.out.keep (Below.refl _ _).drew).b0
 have b1 := (V1.out.keep (Below.refl _ _).drew).b1
 refine region_segs [] (by kernel_rfl) ?_
 refine anyB_seg [0, 1, 2, 3, 4, 5, 6, 7, 8, 9, 10] 1 rfl (by kernel_rfl) (by kernel_rfl) (by kernel_rfl) (fun _ _ d _ _ h => by cases d <;> exact h) ?_
 simp only [pickOps, List.getElem?_toArray, List.getElem?_cons_zero, List.getElem?_cons_succ]
 go_wp2_with fail
 refine ⟨rfl, by rfl, ?_⟩
 refine anyB_one (i := 11) (by kernel_rfl) rfl (fun K hK => ?_)
 go_simp
 have D2 := Lib.hid (D1.out.keep (Below.refl _ _).drew)
 have V2 := Lib.hid (V1.out.keep (Below.refl _ _).drew)
 clear s0 s1 b0 b1
 generalize x1.drew = x2 at D2 V2 hK ⊢
 clear D1 V1
 refine (held_any _ _ _ W.ses i k (by have := D2.out.sv.sl (by rw [HN.out]; omega); rw [HN.out] at this; exact this) rfl (by omega)).mono ?_
 rintro e x3 ⟨hd, rfl, hh, b3⟩
 refine hK.out _ _ (fun _ => b3) ?_
 clear hK K
 have hhd : hd = heldB W.ses i k := hh.sorted (fun j => by
  by_cases hj : j < W.ses.length
  ·exact (HG.out.se hj).wriS
  ·have e : W.ses.getD j Se.new = Se.new := by rw [List.getD_eq_getElem?_getD, List.getElem?_eq_none (by omega)]; rfl
   rw [e]
   exact List.Pairwise.nil)
 have HH := Lib.hid hhd
 have D3 := Lib.hid (D2.out.keep b3)
 have V3 := Lib.hid (V2.out.keep b3)
 clear hh hhd b3 D2 V2
 refine anyB_done (by kernel_rfl) ?_ _
 cases hd with
 | true =>
  have HRR := Lib.hid (show putW W i k v = (W, noA tHeld) by unfold putW; rw [if_pos HH.out.symm])
  go_wp2_with fail
  refine (failed_any _ _).mono ?_
  rintro e x4 ⟨rfl, b4⟩
  have D4 := Lib.hid (D3.out.keep b4)
  have z0 := D4.out.res.cell_ 0 _ rfl
  have z1 := D4.out.res.cell_ 1 _ rfl
  have z2 := D4.out.res.cell_ 2 _ rfl
  have fz := D4.out.res.frozen
  clear b4
  go_wp2_with fail
  have RB := (((D4.out.res).set_ 0 (.int .i64 4)).set_ 1 (.string ⟨#[104, 101, 108, 100]⟩)).set_ 2 (.int .i64 0)
  have t0 := RB.cell_ 0 _ rfl
  have t1 := RB.cell_ 1 _ rfl
  have t2 := RB.cell_ 2 _ rfl
  clear z0 z1 z2 fz
  refine bodyPost_ret (v := .agg #[.int .i64 4, .string ⟨#[104, 101, 108, 100]⟩, .int .i64 0]) (by simp [results, Tryz.results99, go_sem, t0, t1, t2]) rfl ?_
  rw [HRR.out]
  exact D4.out.fin (W, noA tHeld) rfl _ _ _ _ rfl
 | false =>
  have s0 := V3.out.s0
  have b0 := V3.out.b0
  go_wp2_with fail
  refine (find_any _ _ W.rows k V3.out.o0.pl).mono ?_
  rintro e x4 ⟨ir, br, rfl, hf4, b4⟩
  have HFR := Lib.hid (hf4.sorted HG.out.rowsS)
  have D4 := Lib.hid (D3.out.keep b4)
  have V4 := Lib.hid (V3.out.keep b4)
  clear hf4 b4 s0 b0 D3 V3
  have c4 := V4.out.c4
  go_wp2_with fail
  refine (find_any _ _ (W.se i).wri k V4.out.o4.pl).mono ?_
  rintro e x5 ⟨iw, bw5, rfl, hf5, b5⟩
  have HFW := Lib.hid (hf5.sorted (HG.out.se (by rw [HN.out]; exact hi)).wriS)
  have D5 := Lib.hid (D4.out.keep b5)
  have V5 := Lib.hid (V4.out.keep b5)
  clear hf5 b5 c4 D4 V4
  obtain ⟨F, hF⟩ : ∃ F, decide (hasK W.rows k = false ∧ hasK (W.se i).wri k = false ∧ card (keysW W) = 100) = F := ⟨_, rfl⟩
  have XF := Lib.hid hF
  clear hF
  go_upto_region 6 with fail
  go_cut [73] (fun t wc => t = .bool F ∧ Mth w0 w wc bv bw g cap i b W ∧ Vw wc w0.heap.size bv bw g cap i n W.rows (W.se i) Ar cr A1 k1 A2 k2 A3 k3 A4 k4)
  case first =>
   cases br with
   | true =>
    have HF := Lib.hid (show F = false by rw [← XF.out, ← HFR.out.2]; simp)
    go_wp2_with fail
    go_meet
    exact ⟨by rw [HF.out], D5.out, V5.out⟩
   | false =>
    cases bw5 with
    | true =>
     have HF := Lib.hid (show F = false by rw [← XF.out, ← HFW.out.2]; simp)
     go_wp2_with fail
     go_meet
     exact ⟨by rw [HF.out], D5.out, V5.out⟩
    | false =>
     have HF := Lib.hid (show F = decide (card (keysW W) = 100) by rw [← XF.out, ← HFW.out.2, ← HFR.out.2]; simp)
     have s0 := V5.out.s0
     have b0 := V5.out.b0
     have b1 := V5.out.b1
     go_wp2_with fail
     refine (total_any _ _ _ W (by have := D5.out.sv.wl (by rw [HN.out]; omega) V5.out.o0; rw [HN.out] at this; exact this) (by have := ((pairs_iff _ _ _).1 HG.out.rows).2.2; omega) (by rw [HN.out]; omega) (fun t ht => by obtain ⟨j, hj, rfl⟩ := List.getElem_of_mem ht; have := ((pairs_iff _ _ _).1 (HG.out.se hj).wri).2.2; unfold Wo.se at this; rw [getD_at hj] at this; omega)).mono ?_
     rintro e x6 ⟨rfl, b6⟩
     have D6 := Lib.hid (D5.out.keep b6)
     have V6 := Lib.hid (V5.out.keep b6)
     clear b6 s0 b0 b1
     obtain ⟨q, hq⟩ : ∃ q, card (keysW W) = q := ⟨_, rfl⟩
     rw [hq] at HF ⊢
     clear hq
     by_cases h100 : q = 100
     ·have g3 : ((q : Int) == 100) = true := by simp; omega
      have HF2 := Lib.hid (show F = true by rw [HF.out]; simpa using h100)
      clear h100
      go_wp2_with fail
      go_meet
      exact ⟨by rw [HF2.out], D6.out, V6.out⟩
     ·have g3 : ((q : Int) == 100) = false := by simp; omega
      have HF2 := Lib.hid (show F = false by rw [HF.out]; simpa using h100)
      clear h100
      go_wp2_with fail
      go_meet
      exact ⟨by rw [HF2.out], D6.out, V6.out⟩
  case rest =>
   obtain ⟨rfl, hD, hV⟩ := hcut
   have D7 := Lib.hid hD
   have V7 := Lib.hid hV
   clear hD hV D5 V5 HFR HFW
   cases F with
   | true =>
    have HRR := Lib.hid (show putW W i k v = (W, noA tFull) by unfold putW; rw [if_neg (by rw [← HH.out]; decide), if_pos (of_decide_eq_true XF.out)])
    go_wp2_with fail
    refine (failed_any _ _).mono ?_
    rintro e x8 ⟨rfl, b8⟩
    have D8 := Lib.hid (D7.out.keep b8)
    have z0 := D8.out.res.cell_ 0 _ rfl
    have z1 := D8.out.res.cell_ 1 _ rfl
    have z2 := D8.out.res.cell_ 2 _ rfl
    have fz := D8.out.res.frozen
    clear b8
    go_wp2_with fail
    have RB := (((D8.out.res).set_ 0 (.int .i64 4)).set_ 1 (.string ⟨#[102, 117, 108, 108]⟩)).set_ 2 (.int .i64 0)
    have t0 := RB.cell_ 0 _ rfl
    have t1 := RB.cell_ 1 _ rfl
    have t2 := RB.cell_ 2 _ rfl
    clear z0 z1 z2 fz
    refine bodyPost_ret (v := .agg #[.int .i64 4, .string ⟨#[102, 117, 108, 108]⟩, .int .i64 0]) (by simp [results, Tryz.results99, go_sem, t0, t1, t2]) rfl ?_
    rw [HRR.out]
    exact D8.out.fin (W, noA tFull) rfl _ _ _ _ rfl
   | false =>
    have hNF := of_decide_eq_false XF.out
    by_cases hst : (W.se i).st = 1
    ·have HRR := Lib.hid (show putW W i k v = (W.put i ⟨(W.se i).st, (W.se i).set, (W.se i).pre, (W.se i).sav, plusP (W.se i).wri k v⟩, okA) by unfold putW; rw [if_neg (by rw [← HH.out]; decide), if_neg hNF, if_pos hst])
     have g3 : ((W.se i).st == 1) = true := by simpa using hst
     clear hst hNF
     have c0 := V7.out.c0
     have c4 := V7.out.c4
     go_wp2_with fail
     refine (with_any _ _ (W.se i).wri k v V7.out.o4.pl (HG.out.se (by rw [HN.out]; exact hi)).wriS (by have := ((pairs_iff _ _ _).1 (HG.out.se (by rw [HN.out]; exact hi)).wri).2.2; omega) HKV.out.1 HKV.out.2).mono ?_
     rintro e x8 ⟨u8, rfl, o8, b8⟩
     have D8 := Lib.hid (D7.out.keep b8)
     have V8 := Lib.hid (V7.out.keep b8)
     have O8 := Lib.hid (o8.base D7.out.sv.bel.size)
     obtain ⟨A8, k8, rfl⟩ := o8.form
     obtain ⟨m8, hm8⟩ : ∃ m8, (plusP (W.se i).wri k v).length = m8 := ⟨_, rfl⟩
     rw [hm8] at O8 ⊢
     clear c0 c4 o8 b8 hm8
     have D9 := Lib.hid (D8.out.set_4 O8.out)
     have z0 := D8.out.res.cell_ 0 _ rfl
     have z1 := D8.out.res.cell_ 1 _ rfl
     have z2 := D8.out.res.cell_ 2 _ rfl
     have fz := D8.out.res.frozen
     have ng := D8.out.ng
     have c4 := V8.out.c4
     have fg := V8.out.fg
     go_wp2_with fail
     have RB := (((D9.out.res).set_ 0 (.int .i64 1)).set_ 1 (.string ⟨#[]⟩)).set_ 2 (.int .i64 0)
     have t0 := RB.cell_ 0 _ rfl
     have t1 := RB.cell_ 1 _ rfl
     have t2 := RB.cell_ 2 _ rfl
     clear z0 z1 z2 fz
     refine bodyPost_ret (v := .agg #[.int .i64 1, .string ⟨#[]⟩, .int .i64 0]) (by simp [results, Tryz.results99, go_sem, t0, t1, t2]) rfl ?_
     rw [HRR.out]
     exact D9.out.fin (_, okA) rfl _ _ _ _ rfl
    ·have HRR := Lib.hid (show putW W i k v = (⟨plusP W.rows k v, W.ses⟩, okA) by unfold putW; rw [if_neg (by rw [← HH.out]; decide), if_neg hNF, if_neg hst])
     have g3 : ((W.se i).st == 1) = false := by simpa using hst
     clear hst hNF
     have c0 := V7.out.c0
     go_upto_region 10 with fail
     have s0 := (V7.out.keep (Below.refl _ _).drew).s0
     have b0 := (V7.out.keep (Below.refl _ _).drew).b0
     clear c0
     refine region_segs [16] (by kernel_rfl) ?_
     refine anyB_seg [0, 1, 2, 3, 4, 5, 6, 7, 8, 9, 10, 11, 12] 4 rfl (by kernel_rfl) (by kernel_rfl) (by kernel_rfl) (fun _ _ d _ _ h => by cases d <;> exact h) ?_
     simp only [pickOps, List.getElem?_toArray, List.getElem?_cons_zero, List.getElem?_cons_succ]
     go_wp2_with fail
     refine ⟨rfl, by rfl, ?_⟩
     refine anyB_one (i := 13) (by kernel_rfl) rfl (fun K hK => ?_)
     go_simp
     have D8 := Lib.hid (D7.out.keep (Below.refl _ _).drew)
     have V8 := Lib.hid (V7.out.keep (Below.refl _ _).drew)
     clear s0 b0
     generalize World.drew _ = x8 at D8 V8 hK ⊢
     clear D7 V7
     refine (with_any _ _ W.rows k v V8.out.o0.pl HG.out.rowsS (by have := ((pairs_iff _ _ _).1 HG.out.rows).2.2; omega) HKV.out.1 HKV.out.2).mono ?_
     rintro e x9 ⟨u9, rfl, o9, b9⟩
     refine hK.out _ _ (fun _ => b9) ?_
     clear hK K
     have D9 := Lib.hid (D8.out.keep b9)
     have V9 := Lib.hid (V8.out.keep b9)
     have O9 := Lib.hid (o9.base D8.out.sv.bel.size)
     obtain ⟨A9, k9, rfl⟩ := o9.form
     obtain ⟨m9, hm9⟩ : ∃ m9, (plusP W.rows k v).length = m9 := ⟨_, rfl⟩
     rw [hm9] at O9 ⊢
     clear o9 b9 hm9 D8 V8
     refine anyB_seg [14, 15] 1 rfl (by kernel_rfl) (by kernel_rfl) (by kernel_rfl) (fun _ _ d _ _ h => by cases d <;> exact h) ?_
     simp only [pickOps, List.getElem?_toArray, List.getElem?_cons_zero, List.getElem?_cons_succ]
     go_wp2_with fail
     refine ⟨rfl, by rfl, ?_⟩
     have b0 := V9.out.b0
     have fb := V9.out.fb
     refine anyB_one (i := 16) (by kernel_rfl) rfl (fun K hK => ?_)
     go_simp
     have D10 := Lib.hid (D9.out.set_r O9.out)
     refine hK.out _ _ (fun h => absurd (by decide) h) ?_
     clear hK K
     refine anyB_done (by kernel_rfl) ?_ _
     clear b0 fb
     have z0 := D10.out.res.cell_ 0 _ rfl
     have z1 := D10.out.res.cell_ 1 _ rfl
     have z2 := D10.out.res.cell_ 2 _ rfl
     have fz := D10.out.res.frozen
     go_wp2_with fail
     have RB := (((D10.out.res).set_ 0 (.int .i64 1)).set_ 1 (.string ⟨#[]⟩)).set_ 2 (.int .i64 0)
     have t0 := RB.cell_ 0 _ rfl
     have t1 := RB.cell_ 1 _ rfl
     have t2 := RB.cell_ 2 _ rfl
     clear z0 z1 z2 fz
     refine bodyPost_ret (v := .agg #[.int .i64 1, .string ⟨#[]⟩, .int .i64 0]) (by simp [results, Tryz.results99, go_sem, t0, t1, t2]) rfl ?_
     rw [HRR.out]
     exact D10.out.fin (_, okA) rfl _ _ _ _ rfl
end Go.Proofs.YtjbnfigpflambacGreatDoor
