/- (server).do: a statement in a session of a world that is changed. -/
import Derived.Test.YtjbnfigpflambacGreatDoorG16
/- (server).do: a statement in a session of a world that is changed. -/
namespace Go.Proofs.YtjbnfigpflambacGreatDoor
open Go.ChangeShapes Go.WideShapes Go.ChangeAt Go.RowKit
structure Dth (w0 w wx : World) (bv bw g cap i q b : Nat) (x : St) (W : Wo) : Prop where
 m : Mth w0 w wx bv bw g cap i b W
 arg : Blk wx q 41 #[.int .i64 x.k, .string x.key, .string x.val]
section
variable {w0 w wx wy : World} {bv bw g cap i q b : Nat} {x : St} {W W' : Wo}
theorem Dth.start (h : SvAt w0 w bv bw g cap i W) : Dth w0 w ((w.alloc (.cells #[.int .i64 x.k, .string x.key, .string x.val] 41)).alloc (.cells #[.int .i64 0, .string ⟨#[]⟩, .int .i64 0] 46)) bv bw g cap i w.heap.size (w.heap.size + 1) x W := by
 have e : ∀ o : Obj, (w.alloc o).heap.size = w.heap.size + 1 := fun o => by simp
 have hm := Mth.start (h.keep (boxed w (.cells #[.int .i64 x.k, .string x.key, .string x.val] 41)))
 rw [e] at hm
 refine ⟨⟨hm.sv, hm.res, (Only2.of_below (boxed w _)).trans hm.only, Nat.le_succ _, Nat.le_trans h.bel.size (Nat.le_succ _)⟩, (Blk.new w _ _).alloc _⟩
theorem Dth.step (h : Dth w0 w wx bv bw g cap i q b x W) (hs : SvAt w0 wy bv bw g cap i W') (ho : Only2 bw g wx wy) : Dth w0 w wy bv bw g cap i q b x W' := by
 obtain ⟨cg, hg⟩ := h.m.sv.rowg
 obtain ⟨r, h1, _⟩ := h.m.sv.box
 exact ⟨h.m.step hs ho, ho.blk h.arg (h.arg.ne_ h1 (by decide)) (h.arg.ne_ hg (by decide))⟩
theorem Dth.keep (h : Dth w0 w wx bv bw g cap i q b x W) (hb : Below wx.heap.size wx wy) : Dth w0 w wy bv bw g cap i q b x W := ⟨h.m.keep hb, h.arg.keep hb⟩
end
set_option maxHeartbeats 16000000 in
set_option maxRecDepth 100000 in
theorem do1_any (w0 w : World) (bv bw g cap i : Nat) (W : Wo) (x : St) (hS : SvAt w0 w bv bw g cap i W) (hG : Good W) (hk : x.key.size ≤ maxLen) (hv : x.val.size ≤ maxLen) (hx : 1 ≤ x.k ∧ x.k ≤ 11 ∧ x.k ≠ 8) :
  Calls Tryz.prog 65 #[.pointer (some ⟨bv, 0, none⟩), .agg #[.int .i64 x.k, .string x.key, .string x.val]] w (SvR w0 w bv bw g cap i (did1 W i x)) := by
 have HG := Lib.hid hG
 have hfew := hG.few
 have hi := hS.hi
 have HKV := Lib.hid (And.intro hk hv)
 have D0 := Lib.hid (Dth.start (x := x) hS)
 obtain ⟨Ar, cr, A1, k1, A2, k2, A3, k3, A4, k4, V⟩ := hS.view
 have V0 := Lib.hid (V.keep (boxed2 w (.cells #[.int .i64 x.k, .string x.key, .string x.val] 41) (.cells #[.int .i64 0, .string ⟨#[]⟩, .int .i64 0] 46)))
 obtain ⟨n, hn⟩ : ∃ n, W.ses.length = n := ⟨_, rfl⟩
 rw [hn] at V0 hi hfew
 have HN := Lib.hid hn
 obtain ⟨K, key, val⟩ := x
 obtain ⟨q, hq⟩ : ∃ q, w.heap.size = q := ⟨_, rfl⟩
 rw [hq] at D0
 have g1 : (i : Int) < (n : Int) := by omega
 have g2 : (0 : Int) ≤ (i : Int) := by omega
 have HX := Lib.hid hx
 clear hG hS V hn hk hv hx
 go_enter Tryz.func65, Tryz.ntmps65
 go_wp2_with fail
 generalize (w.alloc (.cells #[.int .i64 K, .string key, .string val] 41 (0, 0))).alloc (.cells #[.int .i64 0, .string ⟨#[]⟩, .int .i64 0] 46 (0, 0)) = x0 at D0 V0 ⊢
 have s0 := (V0.out.keep (Below.refl _ _).drew).s0
 have s1 := (V0.out.keep (Below.refl _ _).drew).s1
 have b1 := (V0.out.keep (Below.refl _ _).drew).b1
 refine region_segs [] (by kernel_rfl) ?_
 refine anyB_seg [0, 1, 2, 3, 4, 5, 6, 7, 8, 9, 10, 11, 12] 0 rfl (by kernel_rfl) (by kernel_rfl) (by kernel_rfl) (fun _ _ d _ _ h => by cases d <;> exact h) ?_
 simp only [pickOps, List.getElem?_toArray, List.getElem?_cons_zero, List.getElem?_cons_succ]
 go_wp2_with fail
 refine ⟨rfl, by rfl, ?_⟩
 refine anyB_done (by kernel_rfl) ?_ _
 have D1 := Lib.hid (D0.out.keep (Below.refl _ _).drew)
 have V1 := Lib.hid (V0.out.keep (Below.refl _ _).drew)
 clear s0 s1 b1 hq
 generalize x0.drew = x1 at D1 V1 ⊢
 clear D0 V0
 have c0 := V1.out.c0
 have a0 := D1.out.arg.cell_ 0 _ rfl
 have a1 := D1.out.arg.cell_ 1 _ rfl
 have a2 := D1.out.arg.cell_ 2 _ rfl
 obtain ⟨s, hs⟩ : ∃ s, (W.se i).st = s := ⟨_, rfl⟩
 rw [hs] at c0
 have XS := Lib.hid hs
 clear hs
 obtain ⟨F, hF⟩ : ∃ F, decide (s = 2 ∧ K ≠ 2 ∧ K ≠ 3) = F := ⟨_, rfl⟩
 have XF := Lib.hid hF
 clear hF
 go_upto_region 2 with fail
 go_cut [38] (fun t wc => t = .bool F ∧ wc = x1)
 case first =>
  by_cases h2 : s = 2
  ·have q1 : (s == 2) = true := by simpa using h2
   by_cases k2 : K = 2
   ·have q2 : (K != 2) = false := by simpa using k2
    have HF := Lib.hid (show F = false by rw [← XF.out]; simp [k2])
    clear h2 k2
    go_wp2_with fail
    go_meet
    exact ⟨by rw [HF.out], rfl⟩
   ·have q2 : (K != 2) = true := by simpa using k2
    by_cases k3 : K = 3
    ·have q3 : (K != 3) = false := by simpa using k3
     have HF := Lib.hid (show F = false by rw [← XF.out]; simp [k3])
     clear h2 k2 k3
     go_wp2_with fail
     go_meet
     exact ⟨by rw [HF.out], rfl⟩
    ·have q3 : (K != 3) = true := by simpa using k3
     have HF := Lib.hid (show F = true by rw [← XF.out]; simp [h2, k2, k3])
     clear h2 k2 k3
     go_wp2_with fail
     go_meet
     exact ⟨by rw [HF.out], rfl⟩
  ·have q1 : (s == 2) = false := by simpa using h2
   have HF := Lib.hid (show F = false by rw [← XF.out]; simp [h2])
   clear h2
   go_wp2_with fail
   go_meet
   exact ⟨by rw [HF.out], rfl⟩
 case rest =>
  obtain ⟨rfl, rfl⟩ := hcut
  cases F with
  | true =>
   have hf := of_decide_eq_true XF.out
   have HRR := Lib.hid (show did1 W i ⟨K, key, val⟩ = (W, noA tFailed) by unfold did1; rw [XS.out, if_pos hf])
   clear hf
   go_wp2_with fail
   refine (failed_any _ _).mono ?_
   rintro e x4 ⟨rfl, b4⟩
   have D4 := Lib.hid (D1.out.keep b4)
   have z0 := D4.out.m.res.cell_ 0 _ rfl
   have z1 := D4.out.m.res.cell_ 1 _ rfl
   have z2 := D4.out.m.res.cell_ 2 _ rfl
   have fz := D4.out.m.res.frozen
   clear b4 c0
   go_wp2_with fail
   have RB := (((D4.out.m.res).set_ 0 (.int .i64 4)).set_ 1 (.string ⟨#[102, 97, 105, 108, 101, 100, 32, 97, 108, 114, 101, 97, 100, 121]⟩)).set_ 2 (.int .i64 0)
   have t0 := RB.cell_ 0 _ rfl
   have t1 := RB.cell_ 1 _ rfl
   have t2 := RB.cell_ 2 _ rfl
   clear z0 z1 z2 fz
   clear a0 a1 a2
   refine bodyPost_ret (v := .agg #[.int .i64 4, .string ⟨#[102, 97, 105, 108, 101, 100, 32, 97, 108, 114, 101, 97, 100, 121]⟩, .int .i64 0]) (by simp [results, Tryz.results65, go_sem, t0, t1, t2]) rfl ?_
   rw [HRR.out]
   exact D4.out.m.fin _ rfl _ _ _ _ rfl

  | false =>
   have hf := of_decide_eq_false XF.out
   have HF := Lib.hid (show did1 W i ⟨K, key, val⟩ = if K = 1 ∨ K = 2 ∨ K = 3 then transW W i K else if K = 4 then resetW W i else if K = 6 then getW W i key else if K = 7 then readW W i key else if K = 9 then setW W i key val else if K = 10 then putW W i key val else if K = 11 then prepW W i key val else (W, noA tAsked) by unfold did1; rw [XS.out, if_neg hf])
   clear hf
   have hx := HX.out
   obtain rfl | rfl | rfl | rfl | rfl | rfl | rfl | rfl | rfl | rfl : K = 1 ∨ K = 2 ∨ K = 3 ∨ K = 4 ∨ K = 5 ∨ K = 6 ∨ K = 7 ∨ K = 9 ∨ K = 10 ∨ K = 11 := by omega
   all_goals clear hx
   ·have HRR := Lib.hid (show did1 W i ⟨1, key, val⟩ = transW W i 1 by rw [HF.out, if_pos (by decide)])
    go_wp2_with fail
    refine (trans_any w0 _ bv bw g cap i W 1 D1.out.m.sv HG.out (by decide)).mono ?_
    rintro e x4 ⟨rfl, sv4, o4⟩
    have D4 := Lib.hid (D1.out.step sv4 o4)
    obtain ⟨A, hA⟩ : ∃ A, (transW W i 1).2 = A := ⟨_, rfl⟩
    rw [hA]
    have XA := Lib.hid hA
    unfold anV
    have z0 := D4.out.m.res.cell_ 0 _ rfl
    have z1 := D4.out.m.res.cell_ 1 _ rfl
    have z2 := D4.out.m.res.cell_ 2 _ rfl
    have fz := D4.out.m.res.frozen
    clear sv4 o4 c0 hA a0 a1 a2
    go_wp2_with fail
    have RB := (((D4.out.m.res).set_ 0 (.int .i64 A.kind)).set_ 1 (.string A.text)).set_ 2 (.int .i64 A.st)
    have t0 := RB.cell_ 0 _ rfl
    have t1 := RB.cell_ 1 _ rfl
    have t2 := RB.cell_ 2 _ rfl
    clear z0 z1 z2 fz
    refine bodyPost_ret (v := .agg #[.int .i64 A.kind, .string A.text, .int .i64 A.st]) (by simp [results, Tryz.results65, go_sem, t0, t1, t2]) rfl ?_
    rw [HRR.out]
    exact D4.out.m.fin (transW W i 1) rfl _ _ _ _ (by rw [XA.out]; rfl)
   ·have HRR := Lib.hid (show did1 W i ⟨2, key, val⟩ = transW W i 2 by rw [HF.out, if_pos (by decide)])
    go_wp2_with fail
    refine (trans_any w0 _ bv bw g cap i W 2 D1.out.m.sv HG.out (by decide)).mono ?_
    rintro e x4 ⟨rfl, sv4, o4⟩
    have D4 := Lib.hid (D1.out.step sv4 o4)
    obtain ⟨A, hA⟩ : ∃ A, (transW W i 2).2 = A := ⟨_, rfl⟩
    rw [hA]
    have XA := Lib.hid hA
    unfold anV
    have z0 := D4.out.m.res.cell_ 0 _ rfl
    have z1 := D4.out.m.res.cell_ 1 _ rfl
    have z2 := D4.out.m.res.cell_ 2 _ rfl
    have fz := D4.out.m.res.frozen
    clear sv4 o4 c0 hA a0 a1 a2
    go_wp2_with fail
    have RB := (((D4.out.m.res).set_ 0 (.int .i64 A.kind)).set_ 1 (.string A.text)).set_ 2 (.int .i64 A.st)
    have t0 := RB.cell_ 0 _ rfl
    have t1 := RB.cell_ 1 _ rfl
    have t2 := RB.cell_ 2 _ rfl
    clear z0 z1 z2 fz
    refine bodyPost_ret (v := .agg #[.int .i64 A.kind, .string A.text, .int .i64 A.st]) (by simp [results, Tryz.results65, go_sem, t0, t1, t2]) rfl ?_
    rw [HRR.out]
    exact D4.out.m.fin (transW W i 2) rfl _ _ _ _ (by rw [XA.out]; rfl)
   ·have HRR := Lib.hid (show did1 W i ⟨3, key, val⟩ = transW W i 3 by rw [HF.out, if_pos (by decide)])
    go_wp2_with fail
    refine (trans_any w0 _ bv bw g cap i W 3 D1.out.m.sv HG.out (by decide)).mono ?_
    rintro e x4 ⟨rfl, sv4, o4⟩
    have D4 := Lib.hid (D1.out.step sv4 o4)
    obtain ⟨A, hA⟩ : ∃ A, (transW W i 3).2 = A := ⟨_, rfl⟩
    rw [hA]
    have XA := Lib.hid hA
    unfold anV
    have z0 := D4.out.m.res.cell_ 0 _ rfl
    have z1 := D4.out.m.res.cell_ 1 _ rfl
    have z2 := D4.out.m.res.cell_ 2 _ rfl
    have fz := D4.out.m.res.frozen
    clear sv4 o4 c0 hA a0 a1 a2
    go_wp2_with fail
    have RB := (((D4.out.m.res).set_ 0 (.int .i64 A.kind)).set_ 1 (.string A.text)).set_ 2 (.int .i64 A.st)
    have t0 := RB.cell_ 0 _ rfl
    have t1 := RB.cell_ 1 _ rfl
    have t2 := RB.cell_ 2 _ rfl
    clear z0 z1 z2 fz
    refine bodyPost_ret (v := .agg #[.int .i64 A.kind, .string A.text, .int .i64 A.st]) (by simp [results, Tryz.results65, go_sem, t0, t1, t2]) rfl ?_
    rw [HRR.out]
    exact D4.out.m.fin (transW W i 3) rfl _ _ _ _ (by rw [XA.out]; rfl)
   ·by_cases h0 : s = 0
    ·have HRR := Lib.hid (show did1 W i ⟨4, key, val⟩ = (W.put i ⟨(W.se i).st, [], [], (W.se i).sav, (W.se i).wri⟩, okA) by rw [HF.out]; show resetW W i = _; unfold resetW; rw [if_pos (by rw [XS.out]; exact h0)])
     have q1 : (s != 0) = false := by simpa using h0
     have D4 := Lib.hid (Dth.step D1.out D1.out.m.reset_.sv (((Only2.refl bw g _).set_ (.inr rfl) _).set_ (.inr rfl) _))
     have c1 := V1.out.c1
     have c2 := V1.out.c2
     have fg := V1.out.fg
     have ng := D1.out.m.ng
     have z0 := D1.out.m.res.cell_ 0 _ rfl
     have z1 := D1.out.m.res.cell_ 1 _ rfl
     have z2 := D1.out.m.res.cell_ 2 _ rfl
     have fz := D1.out.m.res.frozen
     clear h0
     go_wp2_with fail
     clear c0 c1 c2
     have RB := (((D4.out.m.res).set_ 0 (.int .i64 1)).set_ 1 (.string ⟨#[]⟩)).set_ 2 (.int .i64 0)
     have t0 := RB.cell_ 0 _ rfl
     have t1 := RB.cell_ 1 _ rfl
     have t2 := RB.cell_ 2 _ rfl
     clear z0 z1 z2 fz
     clear a0 a1 a2
     refine bodyPost_ret (v := .agg #[.int .i64 1, .string ⟨#[]⟩, .int .i64 0]) (by simp [results, Tryz.results65, go_sem, t0, t1, t2]) rfl ?_
     rw [HRR.out]
     exact D4.out.m.fin _ rfl _ _ _ _ rfl
    ·have HRR := Lib.hid (show did1 W i ⟨4, key, val⟩ = (W, noA tNotIn) by rw [HF.out]; show resetW W i = _; unfold resetW; rw [if_neg (by rw [XS.out]; exact h0)])
     have q1 : (s != 0) = true := by simpa using h0
     clear h0
     go_wp2_with fail
     refine (failed_any _ _).mono ?_
     rintro e x4 ⟨rfl, b4⟩
     have D4 := Lib.hid (D1.out.keep b4)
     have z0 := D4.out.m.res.cell_ 0 _ rfl
     have z1 := D4.out.m.res.cell_ 1 _ rfl
     have z2 := D4.out.m.res.cell_ 2 _ rfl
     have fz := D4.out.m.res.frozen
     clear b4 c0
     go_wp2_with fail
     have RB := (((D4.out.m.res).set_ 0 (.int .i64 4)).set_ 1 (.string ⟨#[110, 111, 116, 32, 105, 110, 32, 97, 32, 116, 114, 97, 110, 115, 97, 99, 116, 105, 111, 110]⟩)).set_ 2 (.int .i64 0)
     have t0 := RB.cell_ 0 _ rfl
     have t1 := RB.cell_ 1 _ rfl
     have t2 := RB.cell_ 2 _ rfl
     clear z0 z1 z2 fz
     clear a0 a1 a2
     refine bodyPost_ret (v := .agg #[.int .i64 4, .string ⟨#[110, 111, 116, 32, 105, 110, 32, 97, 32, 116, 114, 97, 110, 115, 97, 99, 116, 105, 111, 110]⟩, .int .i64 0]) (by simp [results, Tryz.results65, go_sem, t0, t1, t2]) rfl ?_
     rw [HRR.out]
     exact D4.out.m.fin _ rfl _ _ _ _ rfl
   ·have HRR := Lib.hid (show did1 W i ⟨5, key, val⟩ = (W, noA tAsked) by rw [HF.out]; rfl)
    go_wp2_with fail
    refine (failed_any _ _).mono ?_
    rintro e x4 ⟨rfl, b4⟩
    have D4 := Lib.hid (D1.out.keep b4)
    have z0 := D4.out.m.res.cell_ 0 _ rfl
    have z1 := D4.out.m.res.cell_ 1 _ rfl
    have z2 := D4.out.m.res.cell_ 2 _ rfl
    have fz := D4.out.m.res.frozen
    clear b4 c0
    go_wp2_with fail
    have RB := (((D4.out.m.res).set_ 0 (.int .i64 4)).set_ 1 (.string ⟨#[97, 115, 32, 97, 115, 107, 101, 100]⟩)).set_ 2 (.int .i64 0)
    have t0 := RB.cell_ 0 _ rfl
    have t1 := RB.cell_ 1 _ rfl
    have t2 := RB.cell_ 2 _ rfl
    clear z0 z1 z2 fz
    clear a0 a1 a2
    refine bodyPost_ret (v := .agg #[.int .i64 4, .string ⟨#[97, 115, 32, 97, 115, 107, 101, 100]⟩, .int .i64 0]) (by simp [results, Tryz.results65, go_sem, t0, t1, t2]) rfl ?_
    rw [HRR.out]
    exact D4.out.m.fin _ rfl _ _ _ _ rfl
   ·obtain ⟨o, hA⟩ : ∃ o, atP (W.se i).set key = o := ⟨_, rfl⟩
    have HA := Lib.hid hA
    clear hA
    have HRR := Lib.hid (show did1 W i ⟨6, key, val⟩ = (W, foundA o) by rw [HF.out]; show getW W i key = _; unfold getW; rw [HA.out])
    cases o with
    | some v =>
     go_upto_region 15 with fail
     clear a0 a1 a2 c0
     have c1 := (V1.out.keep (Below.refl _ _).drew).c1
     have a1 := (D1.out.keep (Below.refl _ _).drew).arg.cell_ 1 _ rfl
     refine region_segs [10] (by kernel_rfl) ?_
     refine anyB_seg [0, 1, 2, 3, 4, 5] 5 rfl (by kernel_rfl) (by kernel_rfl) (by kernel_rfl) (fun _ _ d _ _ h => by cases d <;> exact h) ?_
     simp only [pickOps, List.getElem?_toArray, List.getElem?_cons_zero, List.getElem?_cons_succ]
     go_wp2_with fail
     refine ⟨rfl, by rfl, ?_⟩
     refine anyB_one (i := 6) (by kernel_rfl) rfl (fun K hK => ?_)
     go_simp
     have D2 := Lib.hid (D1.out.keep (Below.refl _ _).drew)
     have V2 := Lib.hid (V1.out.keep (Below.refl _ _).drew)
     clear c1 a1
     generalize World.drew _ = x2 at D2 V2 hK ⊢
     clear D1 V1
     refine (bvalue_any _ _ (W.se i).set key V2.out.o1.pl (HG.out.se (by rw [HN.out]; exact hi)).setS).mono ?_
     rintro e x3 ⟨rfl, b3⟩
     rw [HA.out]
     refine hK.out _ _ (fun _ => b3) ?_
     clear hK K
     have D3 := Lib.hid (D2.out.keep b3)
     clear b3 D2 V2
     unfold valV
     refine anyB_seg [7, 8] 2 rfl (by kernel_rfl) (by kernel_rfl) (by kernel_rfl) (fun _ _ d _ _ h => by cases d <;> exact h) ?_
     simp only [pickOps, List.getElem?_toArray, List.getElem?_cons_zero, List.getElem?_cons_succ]
     go_wp2_with fail
     refine ⟨rfl, by rfl, ?_⟩
     refine anyB_one (i := 9) (by kernel_rfl) rfl (fun K hK => ?_)
     go_simp
     refine (told_some v _).mono ?_
     rintro e x4 ⟨rfl, b4⟩
     refine hK.out _ _ (fun _ => b4) ?_
     clear hK K
     have D4 := Lib.hid (D3.out.keep b4)
     clear b4 D3
     have z0 := D4.out.m.res.cell_ 0 _ rfl
     have z1 := D4.out.m.res.cell_ 1 _ rfl
     have z2 := D4.out.m.res.cell_ 2 _ rfl
     have fz := D4.out.m.res.frozen
     refine anyB_one (i := 10) (by kernel_rfl) rfl (fun K hK => ?_)
     go_simp
     refine hK.out _ _ (fun h => absurd (by decide) h) ?_
     clear hK K
     refine anyB_done (by kernel_rfl) ?_ _
     go_wp2_with fail
     have RB := (((D4.out.m.res).set_ 0 (.int .i64 2)).set_ 1 (.string v)).set_ 2 (.int .i64 0)
     have t0 := RB.cell_ 0 _ rfl
     have t1 := RB.cell_ 1 _ rfl
     have t2 := RB.cell_ 2 _ rfl
     clear z0 z1 z2 fz
     refine bodyPost_ret (v := .agg #[.int .i64 2, .string v, .int .i64 0]) (by simp [results, Tryz.results65, go_sem, t0, t1, t2]) rfl ?_
     rw [HRR.out]
     exact D4.out.m.fin _ rfl _ _ _ _ rfl
    | none =>
     go_upto_region 15 with fail
     clear a0 a1 a2 c0
     have c1 := (V1.out.keep (Below.refl _ _).drew).c1
     have a1 := (D1.out.keep (Below.refl _ _).drew).arg.cell_ 1 _ rfl
     refine region_segs [10] (by kernel_rfl) ?_
     refine anyB_seg [0, 1, 2, 3, 4, 5] 5 rfl (by kernel_rfl) (by kernel_rfl) (by kernel_rfl) (fun _ _ d _ _ h => by cases d <;> exact h) ?_
     simp only [pickOps, List.getElem?_toArray, List.getElem?_cons_zero, List.getElem?_cons_succ]
     go_wp2_with fail
     refine ⟨rfl, by rfl, ?_⟩
     refine anyB_one (i := 6) (by kernel_rfl) rfl (fun K hK => ?_)
     go_simp
     have D2 := Lib.hid (D1.out.keep (Below.refl _ _).drew)
     have V2 := Lib.hid (V1.out.keep (Below.refl _ _).drew)
     clear c1 a1
     generalize World.drew _ = x2 at D2 V2 hK ⊢
     clear D1 V1
     refine (bvalue_any _ _ (W.se i).set key V2.out.o1.pl (HG.out.se (by rw [HN.out]; exact hi)).setS).mono ?_
     rintro e x3 ⟨rfl, b3⟩
     rw [HA.out]
     refine hK.out _ _ (fun _ => b3) ?_
     clear hK K
     have D3 := Lib.hid (D2.out.keep b3)
     clear b3 D2 V2
     unfold valV
     refine anyB_seg [7, 8] 2 rfl (by kernel_rfl) (by kernel_rfl) (by kernel_rfl) (fun _ _ d _ _ h => by cases d <;> exact h) ?_
     simp only [pickOps, List.getElem?_toArray, List.getElem?_cons_zero, List.getElem?_cons_succ]
     go_wp2_with fail
     refine ⟨rfl, by rfl, ?_⟩
     refine anyB_one (i := 9) (by kernel_rfl) rfl (fun K hK => ?_)
     go_simp
     refine (told_none _ _).mono ?_
     rintro e x4 ⟨rfl, b4⟩
     refine hK.out _ _ (fun _ => b4) ?_
     clear hK K
     have D4 := Lib.hid (D3.out.keep b4)
     clear b4 D3
     have z0 := D4.out.m.res.cell_ 0 _ rfl
     have z1 := D4.out.m.res.cell_ 1 _ rfl
     have z2 := D4.out.m.res.cell_ 2 _ rfl
     have fz := D4.out.m.res.frozen
     refine anyB_one (i := 10) (by kernel_rfl) rfl (fun K hK => ?_)
     go_simp
     refine hK.out _ _ (fun h => absurd (by decide) h) ?_
     clear hK K
     refine anyB_done (by kernel_rfl) ?_ _
     go_wp2_with fail
     have RB := (((D4.out.m.res).set_ 0 (.int .i64 3)).set_ 1 (.string ⟨#[]⟩)).set_ 2 (.int .i64 0)
     have t0 := RB.cell_ 0 _ rfl
     have t1 := RB.cell_ 1 _ rfl
     have t2 := RB.cell_ 2 _ rfl
     clear z0 z1 z2 fz
     refine bodyPost_ret (v := .agg #[.int .i64 3, .string ⟨#[]⟩, .int .i64 0]) (by simp [results, Tryz.results65, go_sem, t0, t1, t2]) rfl ?_
     rw [HRR.out]
     exact D4.out.m.fin _ rfl _ _ _ _ rfl
   ·obtain ⟨o, hA⟩ : ∃ o, atP (W.se i).wri key = o := ⟨_, rfl⟩
    have HA := Lib.hid hA
    clear hA
    cases o with
    | some v =>
     have HRR := Lib.hid (show did1 W i ⟨7, key, val⟩ = (W, foundA (some v)) by rw [HF.out]; show readW W i key = _; unfold readW; rw [HA.out])
     go_upto_region 17 with fail
     clear a0 a1 a2 c0
     have c4 := (V1.out.keep (Below.refl _ _).drew).c4
     have a1 := (D1.out.keep (Below.refl _ _).drew).arg.cell_ 1 _ rfl
     refine region_segs [] (by kernel_rfl) ?_
     refine anyB_seg [0, 1, 2, 3, 4, 5] 6 rfl (by kernel_rfl) (by kernel_rfl) (by kernel_rfl) (fun _ _ d _ _ h => by cases d <;> exact h) ?_
     simp only [pickOps, List.getElem?_toArray, List.getElem?_cons_zero, List.getElem?_cons_succ]
     go_wp2_with fail
     refine ⟨rfl, by rfl, ?_⟩
     refine anyB_one (i := 6) (by kernel_rfl) rfl (fun K hK => ?_)
     go_simp
     have D2 := Lib.hid (D1.out.keep (Below.refl _ _).drew)
     have V2 := Lib.hid (V1.out.keep (Below.refl _ _).drew)
     clear c4 a1
     generalize World.drew _ = x2 at D2 V2 hK ⊢
     clear D1 V1
     refine (bvalue_any _ _ (W.se i).wri key V2.out.o4.pl (HG.out.se (by rw [HN.out]; exact hi)).wriS).mono ?_
     rintro e x3 ⟨rfl, b3⟩
     rw [HA.out]
     refine hK.out _ _ (fun _ => b3) ?_
     clear hK K
     have D3 := Lib.hid (D2.out.keep b3)
     have V3 := Lib.hid (V2.out.keep b3)
     clear b3 D2 V2
     unfold valV
     refine anyB_seg [7, 8, 9, 10, 11] 0 rfl (by kernel_rfl) (by kernel_rfl) (by kernel_rfl) (fun _ _ d _ _ h => by cases d <;> exact h) ?_
     simp only [pickOps, List.getElem?_toArray, List.getElem?_cons_zero, List.getElem?_cons_succ]
     go_wp2_with fail
     refine ⟨rfl, by rfl, ?_⟩
     refine anyB_done (by kernel_rfl) ?_ _
     go_wp2_with fail
     refine (told_some v _).mono ?_
     rintro e x4 ⟨rfl, b4⟩
     have D4 := Lib.hid (D3.out.keep b4)
     have z0 := D4.out.m.res.cell_ 0 _ rfl
     have z1 := D4.out.m.res.cell_ 1 _ rfl
     have z2 := D4.out.m.res.cell_ 2 _ rfl
     have fz := D4.out.m.res.frozen
     clear b4
     go_wp2_with fail
     have RB := (((D4.out.m.res).set_ 0 (.int .i64 2)).set_ 1 (.string v)).set_ 2 (.int .i64 0)
     have t0 := RB.cell_ 0 _ rfl
     have t1 := RB.cell_ 1 _ rfl
     have t2 := RB.cell_ 2 _ rfl
     clear z0 z1 z2 fz
     refine bodyPost_ret (v := .agg #[.int .i64 2, .string v, .int .i64 0]) (by simp [results, Tryz.results65, go_sem, t0, t1, t2]) rfl ?_
     rw [HRR.out]
     exact D4.out.m.fin _ rfl _ _ _ _ rfl
    | none =>
     obtain ⟨o, hR⟩ : ∃ o, atP W.rows key = o := ⟨_, rfl⟩
     have HR := Lib.hid hR
     clear hR
     have HRR := Lib.hid (show did1 W i ⟨7, key, val⟩ = (W, foundA o) by rw [HF.out]; show readW W i key = _; unfold readW; rw [HA.out, HR.out])
     go_upto_region 17 with fail
     clear a0 a1 a2 c0
     have c4 := (V1.out.keep (Below.refl _ _).drew).c4
     have a1 := (D1.out.keep (Below.refl _ _).drew).arg.cell_ 1 _ rfl
     refine region_segs [] (by kernel_rfl) ?_
     refine anyB_seg [0, 1, 2, 3, 4, 5] 6 rfl (by kernel_rfl) (by kernel_rfl) (by kernel_rfl) (fun _ _ d _ _ h => by cases d <;> exact h) ?_
     simp only [pickOps, List.getElem?_toArray, List.getElem?_cons_zero, List.getElem?_cons_succ]
     go_wp2_with fail
     refine ⟨rfl, by rfl, ?_⟩
     refine anyB_one (i := 6) (by kernel_rfl) rfl (fun K hK => ?_)
     go_simp
     have D2 := Lib.hid (D1.out.keep (Below.refl _ _).drew)
     have V2 := Lib.hid (V1.out.keep (Below.refl _ _).drew)
     clear c4 a1
     generalize World.drew _ = x2 at D2 V2 hK ⊢
     clear D1 V1
     refine (bvalue_any _ _ (W.se i).wri key V2.out.o4.pl (HG.out.se (by rw [HN.out]; exact hi)).wriS).mono ?_
     rintro e x3 ⟨rfl, b3⟩
     rw [HA.out]
     refine hK.out _ _ (fun _ => b3) ?_
     clear hK K
     have D3 := Lib.hid (D2.out.keep b3)
     have V3 := Lib.hid (V2.out.keep b3)
     clear b3 D2 V2
     unfold valV
     refine anyB_seg [7, 8, 9, 10, 11] 0 rfl (by kernel_rfl) (by kernel_rfl) (by kernel_rfl) (fun _ _ d _ _ h => by cases d <;> exact h) ?_
     simp only [pickOps, List.getElem?_toArray, List.getElem?_cons_zero, List.getElem?_cons_succ]
     go_wp2_with fail
     refine ⟨rfl, by rfl, ?_⟩
     refine anyB_done (by kernel_rfl) ?_ _
     cases o with
     | some v =>
      go_upto_region 20 with fail
      have s0 := (V3.out.keep (Below.refl _ _).drew).s0
      have b0 := (V3.out.keep (Below.refl _ _).drew).b0
      have a1 := (D3.out.keep (Below.refl _ _).drew).arg.cell_ 1 _ rfl
      refine region_segs [13] (by kernel_rfl) ?_
      refine anyB_seg [0, 1, 2, 3, 4, 5, 6, 7, 8] 5 rfl (by kernel_rfl) (by kernel_rfl) (by kernel_rfl) (fun _ _ d _ _ h => by cases d <;> exact h) ?_
      simp only [pickOps, List.getElem?_toArray, List.getElem?_cons_zero, List.getElem?_cons_succ]
      go_wp2_with fail
      refine ⟨rfl, by rfl, ?_⟩
      refine anyB_one (i := 9) (by kernel_rfl) rfl (fun K hK => ?_)
      go_simp
      have D4 := Lib.hid (D3.out.keep (Below.refl _ _).drew)
      have V4 := Lib.hid (V3.out.keep (Below.refl _ _).drew)
      clear s0 b0 a1
      generalize World.drew _ = x4 at D4 V4 hK ⊢
      clear D3 V3
      refine (bvalue_any _ _ W.rows key V4.out.o0.pl HG.out.rowsS).mono ?_
      rintro e x5 ⟨rfl, b5⟩
      rw [HR.out]
      refine hK.out _ _ (fun _ => b5) ?_
      clear hK K
      have D5 := Lib.hid (D4.out.keep b5)
      clear b5 D4 V4
      unfold valV
      refine anyB_seg [10, 11] 2 rfl (by kernel_rfl) (by kernel_rfl) (by kernel_rfl) (fun _ _ d _ _ h => by cases d <;> exact h) ?_
      simp only [pickOps, List.getElem?_toArray, List.getElem?_cons_zero, List.getElem?_cons_succ]
      go_wp2_with fail
      refine ⟨rfl, by rfl, ?_⟩
      refine anyB_one (i := 12) (by kernel_rfl) rfl (fun K hK => ?_)
      go_simp
      refine (told_some v _).mono ?_
      rintro e x6 ⟨rfl, b6⟩
      refine hK.out _ _ (fun _ => b6) ?_
      clear hK K
      have D6 := Lib.hid (D5.out.keep b6)
      clear b6 D5
      have z0 := D6.out.m.res.cell_ 0 _ rfl
      have z1 := D6.out.m.res.cell_ 1 _ rfl
      have z2 := D6.out.m.res.cell_ 2 _ rfl
      have fz := D6.out.m.res.frozen
      refine anyB_one (i := 13) (by kernel_rfl) rfl (fun K hK => ?_)
      go_simp
      refine hK.out _ _ (fun h => absurd (by decide) h) ?_
      clear hK K
      refine anyB_done (by kernel_rfl) ?_ _
      go_wp2_with fail
      have RB := (((D6.out.m.res).set_ 0 (.int .i64 2)).set_ 1 (.string v)).set_ 2 (.int .i64 0)
      have t0 := RB.cell_ 0 _ rfl
      have t1 := RB.cell_ 1 _ rfl
      have t2 := RB.cell_ 2 _ rfl
      clear z0 z1 z2 fz
      refine bodyPost_ret (v := .agg #[.int .i64 2, .string v, .int .i64 0]) (by simp [results, Tryz.results65, go_sem, t0, t1, t2]) rfl ?_
      rw [HRR.out]
      exact D6.out.m.fin _ rfl _ _ _ _ rfl
     | none =>
      go_upto_region 20 with fail
      have s0 := (V3.out.keep (Below.refl _ _).drew).s0
      have b0 := (V3.out.keep (Below.refl _ _).drew).b0
      have a1 := (D3.out.keep (Below.refl _ _).drew).arg.cell_ 1 _ rfl
      refine region_segs [13] (by kernel_rfl) ?_
      refine anyB_seg [0, 1, 2, 3, 4, 5, 6, 7, 8] 5 rfl (by kernel_rfl) (by kernel_rfl) (by kernel_rfl) (fun _ _ d _ _ h => by cases d <;> exact h) ?_
      simp only [pickOps, List.getElem?_toArray, List.getElem?_cons_zero, List.getElem?_cons_succ]
      go_wp2_with fail
      refine ⟨rfl, by rfl, ?_⟩
      refine anyB_one (i := 9) (by kernel_rfl) rfl (fun K hK => ?_)
      go_simp
      have D4 := Lib.hid (D3.out.keep (Below.refl _ _).drew)
      have V4 := Lib.hid (V3.out.keep (Below.refl _ _).drew)
      clear s0 b0 a1
      generalize World.drew _ = x4 at D4 V4 hK ⊢
      clear D3 V3
      refine (bvalue_any _ _ W.rows key V4.out.o0.pl HG.out.rowsS).mono ?_
      rintro e x5 ⟨rfl, b5⟩
      rw [HR.out]
      refine hK.out _ _ (fun _ => b5) ?_
      clear hK K
      have D5 := Lib.hid (D4.out.keep b5)
      clear b5 D4 V4
      unfold valV
      refine anyB_seg [10, 11] 2 rfl (by kernel_rfl) (by kernel_rfl) (by kernel_rfl) (fun _ _ d _ _ h => by cases d <;> exact h) ?_
      simp only [pickOps, List.getElem?_toArray, List.getElem?_cons_zero, List.getElem?_cons_succ]
      go_wp2_with fail
      refine ⟨rfl, by rfl, ?_⟩
      refine anyB_one (i := 12) (by kernel_rfl) rfl (fun K hK => ?_)
      go_simp
      refine (told_none _ _).mono ?_
      rintro e x6 ⟨rfl, b6⟩
      refine hK.out _ _ (fun _ => b6) ?_
      clear hK K
      have D6 := Lib.hid (D5.out.keep b6)
      clear b6 D5
      have z0 := D6.out.m.res.cell_ 0 _ rfl
      have z1 := D6.out.m.res.cell_ 1 _ rfl
      have z2 := D6.out.m.res.cell_ 2 _ rfl
      have fz := D6.out.m.res.frozen
      refine anyB_one (i := 13) (by kernel_rfl) rfl (fun K hK => ?_)
      go_simp
      refine hK.out _ _ (fun h => absurd (by decide) h) ?_
      clear hK K
      refine anyB_done (by kernel_rfl) ?_ _
      go_wp2_with fail
      have RB := (((D6.out.m.res).set_ 0 (.int .i64 3)).set_ 1 (.string ⟨#[]⟩)).set_ 2 (.int .i64 0)
      have t0 := RB.cell_ 0 _ rfl
      have t1 := RB.cell_ 1 _ rfl
      have t2 := RB.cell_ 2 _ rfl
      clear z0 z1 z2 fz
      refine bodyPost_ret (v := .agg #[.int .i64 3, .string ⟨#[]⟩, .int .i64 0]) (by simp [results, Tryz.results65, go_sem, t0, t1, t2]) rfl ?_
      rw [HRR.out]
      exact D6.out.m.fin _ rfl _ _ _ _ rfl
   ·go_upto_region 28 with fail
    clear a0 a1 a2 c0
    have c1 := (V1.out.keep (Below.refl _ _).drew).c1
    have a1 := (D1.out.keep (Below.refl _ _).drew).arg.cell_ 1 _ rfl
    have a2 := (D1.out.keep (Below.refl _ _).drew).arg.cell_ 2 _ rfl
    refine region_segs [7, 8] (by kernel_rfl) ?_
    refine anyB_seg [0, 1, 2, 3, 4, 5, 6] 2 rfl (by kernel_rfl) (by kernel_rfl) (by kernel_rfl) (fun _ _ d _ _ h => by cases d <;> exact h) ?_
    simp only [pickOps, List.getElem?_toArray, List.getElem?_cons_zero, List.getElem?_cons_succ]
    go_wp2_with fail
    refine ⟨rfl, by rfl, ?_⟩
    refine anyB_one (i := 7) (by kernel_rfl) rfl (fun K hK => ?_)
    go_simp
    have D2 := Lib.hid (D1.out.keep (Below.refl _ _).drew)
    have V2 := Lib.hid (V1.out.keep (Below.refl _ _).drew)
    clear a1 a2
    generalize World.drew _ = x2 at D2 V2 hK c1 ⊢
    clear D1 V1
    obtain ⟨cg, hcg⟩ := D2.out.m.sv.rowg
    refine (keep_any _ g (i * 5 + 1) w0.heap.size _ (W.se i).set key val c1 (V2.out.fg _) V2.out.o1.pl (HG.out.se (by rw [HN.out]; exact hi)).setS (by have := ((pairs_iff _ _ _).1 (HG.out.se (by rw [HN.out]; exact hi)).set).2.2; omega) HKV.out.1 HKV.out.2 D2.out.m.sv.bel.size _ _ hcg (by decide)).mono ?_
    rintro e x3 (⟨hk3, rfl, b3⟩ | ⟨u3, hk3, rfl, o3, b3⟩)
    ·have HRR := Lib.hid (show did1 W i ⟨9, key, val⟩ = (W, noA tFull) by rw [HF.out]; show setW W i key val = _; unfold setW; rw [hk3])
     refine hK.out _ _ (fun h => absurd (by decide) h) ?_
     clear hK K
     have D4 := Lib.hid (D2.out.keep b3)
     clear b3 D2 V2 hk3 c1 hcg
     unfold anV noA tFull
     have z0 := D4.out.m.res.cell_ 0 _ rfl
     have z1 := D4.out.m.res.cell_ 1 _ rfl
     have z2 := D4.out.m.res.cell_ 2 _ rfl
     have fz := D4.out.m.res.frozen
     refine anyB_one (i := 8) (by kernel_rfl) rfl (fun K hK => ?_)
     go_simp
     refine hK.out _ _ (fun h => absurd (by decide) h) ?_
     clear hK K
     refine anyB_done (by kernel_rfl) ?_ _
     go_wp2_with fail
     have RB := (((D4.out.m.res).set_ 0 (.int .i64 4)).set_ 1 (.string ⟨#[102, 117, 108, 108]⟩)).set_ 2 (.int .i64 0)
     have t0 := RB.cell_ 0 _ rfl
     have t1 := RB.cell_ 1 _ rfl
     have t2 := RB.cell_ 2 _ rfl
     clear z0 z1 z2 fz
     refine bodyPost_ret (v := .agg #[.int .i64 4, .string ⟨#[102, 117, 108, 108]⟩, .int .i64 0]) (by simp [results, Tryz.results65, go_sem, t0, t1, t2]) rfl ?_
     rw [HRR.out]
     exact D4.out.m.fin _ rfl _ _ _ _ rfl
    ·have HRR := Lib.hid (show did1 W i ⟨9, key, val⟩ = (W.put i ⟨(W.se i).st, plusP (W.se i).set key val, (W.se i).pre, (W.se i).sav, (W.se i).wri⟩, okA) by rw [HF.out]; show setW W i key val = _; unfold setW; rw [hk3])
     refine hK.out _ _ (fun h => absurd (by decide) h) ?_
     clear hK K
     have nn := D2.out.m.new_1 b3 o3
     have D4 := Lib.hid (D2.out.step nn.1 nn.2)
     clear b3 o3 D2 V2 hk3 c1 hcg nn
     unfold anV okA
     have z0 := D4.out.m.res.cell_ 0 _ rfl
     have z1 := D4.out.m.res.cell_ 1 _ rfl
     have z2 := D4.out.m.res.cell_ 2 _ rfl
     have fz := D4.out.m.res.frozen
     refine anyB_one (i := 8) (by kernel_rfl) rfl (fun K hK => ?_)
     go_simp
     refine hK.out _ _ (fun h => absurd (by decide) h) ?_
     clear hK K
     refine anyB_done (by kernel_rfl) ?_ _
     go_wp2_with fail
     have RB := (((D4.out.m.res).set_ 0 (.int .i64 1)).set_ 1 (.string ⟨#[]⟩)).set_ 2 (.int .i64 0)
     have t0 := RB.cell_ 0 _ rfl
     have t1 := RB.cell_ 1 _ rfl
     have t2 := RB.cell_ 2 _ rfl
     clear z0 z1 z2 fz
     refine bodyPost_ret (v := .agg #[.int .i64 1, .string ⟨#[]⟩, .int .i64 0]) (by simp [results, Tryz.results65, go_sem, t0, t1, t2]) rfl ?_
     rw [HRR.out]
     exact D4.out.m.fin _ rfl _ _ _ _ rfl
   ·have HRR := Lib.hid (show did1 W i ⟨10, key, val⟩ = putW W i key val by rw [HF.out]; rfl)
    go_wp2_with fail
    refine (put_any w0 _ bv bw g cap i W key val D1.out.m.sv HG.out HKV.out.1 HKV.out.2).mono ?_
    rintro e x4 ⟨rfl, sv4, o4⟩
    have D4 := Lib.hid (D1.out.step sv4 o4)
    obtain ⟨A, hA⟩ : ∃ A, (putW W i key val).2 = A := ⟨_, rfl⟩
    rw [hA]
    have XA := Lib.hid hA
    unfold anV
    have z0 := D4.out.m.res.cell_ 0 _ rfl
    have z1 := D4.out.m.res.cell_ 1 _ rfl
    have z2 := D4.out.m.res.cell_ 2 _ rfl
    have fz := D4.out.m.res.frozen
    clear sv4 o4 c0 hA a0 a1 a2
    go_wp2_with fail
    have RB := (((D4.out.m.res).set_ 0 (.int .i64 A.kind)).set_ 1 (.string A.text)).set_ 2 (.int .i64 A.st)
    have t0 := RB.cell_ 0 _ rfl
    have t1 := RB.cell_ 1 _ rfl
    have t2 := RB.cell_ 2 _ rfl
    clear z0 z1 z2 fz
    refine bodyPost_ret (v := .agg #[.int .i64 A.kind, .string A.text, .int .i64 A.st]) (by simp [results, Tryz.results65, go_sem, t0, t1, t2]) rfl ?_
    rw [HRR.out]
    exact D4.out.m.fin (putW W i key val) rfl _ _ _ _ (by rw [XA.out]; rfl)
   ·go_upto_region 32 with fail
    clear a0 a1 a2 c0
    have c2 := (V1.out.keep (Below.refl _ _).drew).c2
    have a1 := (D1.out.keep (Below.refl _ _).drew).arg.cell_ 1 _ rfl
    have a2 := (D1.out.keep (Below.refl _ _).drew).arg.cell_ 2 _ rfl
    refine region_segs [7, 8] (by kernel_rfl) ?_
    refine anyB_seg [0, 1, 2, 3, 4, 5, 6] 2 rfl (by kernel_rfl) (by kernel_rfl) (by kernel_rfl) (fun _ _ d _ _ h => by cases d <;> exact h) ?_
    simp only [pickOps, List.getElem?_toArray, List.getElem?_cons_zero, List.getElem?_cons_succ]
    go_wp2_with fail
    refine ⟨rfl, by rfl, ?_⟩
    refine anyB_one (i := 7) (by kernel_rfl) rfl (fun K hK => ?_)
    go_simp
    have D2 := Lib.hid (D1.out.keep (Below.refl _ _).drew)
    have V2 := Lib.hid (V1.out.keep (Below.refl _ _).drew)
    clear a1 a2
    generalize World.drew _ = x2 at D2 V2 hK c2 ⊢
    clear D1 V1
    obtain ⟨cg, hcg⟩ := D2.out.m.sv.rowg
    refine (keep_any _ g (i * 5 + 2) w0.heap.size _ (W.se i).pre key val c2 (V2.out.fg _) V2.out.o2.pl (HG.out.se (by rw [HN.out]; exact hi)).preS (by have := ((pairs_iff _ _ _).1 (HG.out.se (by rw [HN.out]; exact hi)).pre).2.2; omega) HKV.out.1 HKV.out.2 D2.out.m.sv.bel.size _ _ hcg (by decide)).mono ?_
    rintro e x3 (⟨hk3, rfl, b3⟩ | ⟨u3, hk3, rfl, o3, b3⟩)
    ·have HRR := Lib.hid (show did1 W i ⟨11, key, val⟩ = (W, noA tFull) by rw [HF.out]; show prepW W i key val = _; unfold prepW; rw [hk3])
     refine hK.out _ _ (fun h => absurd (by decide) h) ?_
     clear hK K
     have D4 := Lib.hid (D2.out.keep b3)
     clear b3 D2 V2 hk3 c2 hcg
     unfold anV noA tFull
     have z0 := D4.out.m.res.cell_ 0 _ rfl
     have z1 := D4.out.m.res.cell_ 1 _ rfl
     have z2 := D4.out.m.res.cell_ 2 _ rfl
     have fz := D4.out.m.res.frozen
     refine anyB_one (i := 8) (by kernel_rfl) rfl (fun K hK => ?_)
     go_simp
     refine hK.out _ _ (fun h => absurd (by decide) h) ?_
     clear hK K
     refine anyB_done (by kernel_rfl) ?_ _
     go_wp2_with fail
     have RB := (((D4.out.m.res).set_ 0 (.int .i64 4)).set_ 1 (.string ⟨#[102, 117, 108, 108]⟩)).set_ 2 (.int .i64 0)
     have t0 := RB.cell_ 0 _ rfl
     have t1 := RB.cell_ 1 _ rfl
     have t2 := RB.cell_ 2 _ rfl
     clear z0 z1 z2 fz
     refine bodyPost_ret (v := .agg #[.int .i64 4, .string ⟨#[102, 117, 108, 108]⟩, .int .i64 0]) (by simp [results, Tryz.results65, go_sem, t0, t1, t2]) rfl ?_
     rw [HRR.out]
     exact D4.out.m.fin _ rfl _ _ _ _ rfl
    ·have HRR := Lib.hid (show did1 W i ⟨11, key, val⟩ = (W.put i ⟨(W.se i).st, (W.se i).set, plusP (W.se i).pre key val, (W.se i).sav, (W.se i).wri⟩, okA) by rw [HF.out]; show prepW W i key val = _; unfold prepW; rw [hk3])
     refine hK.out _ _ (fun h => absurd (by decide) h) ?_
     clear hK K
     have nn := D2.out.m.new_2 b3 o3
     have D4 := Lib.hid (D2.out.step nn.1 nn.2)
     clear b3 o3 D2 V2 hk3 c2 hcg nn
     unfold anV okA
     have z0 := D4.out.m.res.cell_ 0 _ rfl
     have z1 := D4.out.m.res.cell_ 1 _ rfl
     have z2 := D4.out.m.res.cell_ 2 _ rfl
     have fz := D4.out.m.res.frozen
     refine anyB_one (i := 8) (by kernel_rfl) rfl (fun K hK => ?_)
     go_simp
     refine hK.out _ _ (fun h => absurd (by decide) h) ?_
     clear hK K
     refine anyB_done (by kernel_rfl) ?_ _
     go_wp2_with fail
     have RB := (((D4.out.m.res).set_ 0 (.int .i64 1)).set_ 1 (.string ⟨#[]⟩)).set_ 2 (.int .i64 0)
     have t0 := RB.cell_ 0 _ rfl
     have t1 := RB.cell_ 1 _ rfl
     have t2 := RB.cell_ 2 _ rfl
     clear z0 z1 z2 fz
     refine bodyPost_ret (v := .agg #[.int .i64 1, .string ⟨#[]⟩, .int .i64 0]) (by simp [results, Tryz.results65, go_sem, t0, t1, t2]) rfl ?_
     rw [HRR.out]
     exact D4.out.m.fin _ rfl _ _ _ _ rfl
end Go.Proofs.YtjbnfigpflambacGreatDoor
