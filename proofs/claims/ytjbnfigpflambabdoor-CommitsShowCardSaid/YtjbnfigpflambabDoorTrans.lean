/- (server).transaction: statements that begin and end one. -/
import Derived.Test.YtjbnfigpflambabDoorEnd
namespace Go.Proofs.YtjbnfigpflambabDoor
open Go.ChangeShapes Go.WideShapes Go.ChangeAt Go.RowKit

set_option maxHeartbeats 8000000 in
set_option maxRecDepth 100000 in
theorem trans_any (w0 w : World) (bv bw g cap i : Nat) (W : Wo) (k : Int) (hS : SvAt w0 w bv bw g cap i W) (hG : Good W) (hk : k = 1 ∨ k = 2 ∨ k = 3) :
    Calls Tryd.prog 72 #[.pointer (some ⟨bv, 0, none⟩), .int .i64 k] w (SvR w0 w bv bw g cap i (transW W i k)) := by
  have HG := Lib.hid hG
  have hfew := hG.few
  have hi := hS.hi
  have D0 := Lib.hid (Mth.start hS)
  obtain ⟨Ar, cr, A1, k1, A2, k2, A3, k3, A4, k4, V⟩ := hS.view
  have V0 := Lib.hid (V.keep (boxed w (.cells #[.int .i64 0, .string ⟨#[]⟩, .int .i64 0] 48)))
  obtain ⟨n, hn⟩ : ∃ n, W.ses.length = n := ⟨_, rfl⟩
  rw [hn] at V0 hi hfew
  have HN := Lib.hid hn
  obtain ⟨b, hb⟩ : ∃ b, w.heap.size = b := ⟨_, rfl⟩
  rw [hb] at D0
  have g1 : (i : Int) < (n : Int) := by omega
  have g2 : (0 : Int) ≤ (i : Int) := by omega
  clear hG hS V hn
  go_enter Tryd.func72, Tryd.ntmps72
  go_wp2_with fail
  generalize w.alloc (.cells #[.int .i64 0, .string ⟨#[]⟩, .int .i64 0] 48 (0, 0)) = x0 at D0 V0 ⊢
  clear hb
  have s0 := (V0.out.keep (Below.refl _ _).drew).s0
  have s1 := (V0.out.keep (Below.refl _ _).drew).s1
  have b1 := (V0.out.keep (Below.refl _ _).drew).b1
  refine region_segs [] (by kernel_rfl) ?_
  refine anyB_seg [0, 1, 2, 3, 4, 5, 6, 7, 8, 9, 10, 11, 12] 0 rfl (by kernel_rfl) (by kernel_rfl) (by kernel_rfl) (fun _ _ d _ _ h => by cases d <;> exact h) ?_
  simp only [pickOps, List.getElem?_toArray, List.getElem?_cons_zero, List.getElem?_cons_succ]
  go_wp2_with fail
  refine ⟨rfl, by rfl, ?_⟩
  refine anyB_done (by kernel_rfl) ?_ _
  have D1 := Lib.hid (D0.out.keep (Below.refl _ _).drew)
  have V1 := Lib.hid (V0.out.keep (Below.refl _ _).drew)
  clear s0 s1 b1
  generalize x0.drew = x1 at D1 V1 ⊢
  clear D0 V0
  have c0 := V1.out.c0
  by_cases hk1 : k = 1
  · subst hk1
    by_cases h0 : (W.se i).st = 0
    · have HRR := Lib.hid (show transW W i 1 = (W.put i ⟨1, (W.se i).set, (W.se i).pre, (W.se i).set, (W.se i).wri⟩, okA) by unfold transW; rw [if_pos ⟨rfl, h0⟩])
      have g3 : ((W.se i).st == 0) = true := by simpa using h0
      have c1 := V1.out.c1
      clear h0 hk
      go_wp2_with fail
      refine (clone_own _ w0.heap.size _ (W.se i).set V1.out.o1.pl D1.out.sv.bel.size).mono ?_
      rintro e x4 ⟨u4, rfl, o4, b4⟩
      have D4 := Lib.hid (D1.out.keep b4)
      have V4 := Lib.hid (V1.out.keep b4)
      obtain ⟨A8, k8, rfl⟩ := o4.form
      have O4 := Lib.hid o4
      have c0' := V4.out.c0
      have c3' := V4.out.c3
      have fg := V4.out.fg
      have D5 := Lib.hid (D4.out.begin_ O4.out)
      have z0 := D4.out.res.cell_ 0 _ rfl
      have z1 := D4.out.res.cell_ 1 _ rfl
      have z2 := D4.out.res.cell_ 2 _ rfl
      have fz := D4.out.res.frozen
      have ng := D4.out.ng
      clear b4 c0 c1 o4
      go_wp2_with fail
      have RB := (((D5.out.res).set_ 0 (.int .i64 1)).set_ 1 (.string ⟨#[]⟩)).set_ 2 (.int .i64 0)
      have t0 := RB.cell_ 0 _ rfl
      have t1 := RB.cell_ 1 _ rfl
      have t2 := RB.cell_ 2 _ rfl
      clear z0 z1 z2 fz
      refine bodyPost_ret (v := .agg #[.int .i64 1, .string ⟨#[]⟩, .int .i64 0]) (by simp [results, Tryd.results72, go_sem, t0, t1, t2]) rfl ?_
      rw [HRR.out]
      exact D5.out.fin (_, okA) rfl _ _ _ _ rfl
    · have g3 : ((W.se i).st == 0) = false := by simpa using h0
      have HRR := Lib.hid (show transW W i 1 = (W, noA tBegun) by unfold transW; rw [if_neg (fun h => h0 h.2), if_pos rfl])
      clear hk
      go_wp2_with fail
      refine (failed_any _ _).mono ?_
      rintro e x4 ⟨rfl, b4⟩
      have D4 := Lib.hid (D1.out.keep b4)
      have z0 := D4.out.res.cell_ 0 _ rfl
      have z1 := D4.out.res.cell_ 1 _ rfl
      have z2 := D4.out.res.cell_ 2 _ rfl
      have fz := D4.out.res.frozen
      clear b4 c0
      go_wp2_with fail
      have RB := (((D4.out.res).set_ 0 (.int .i64 4)).set_ 1 (.string ⟨#[98, 101, 103, 117, 110, 32, 97, 108, 114, 101, 97, 100, 121]⟩)).set_ 2 (.int .i64 0)
      have t0 := RB.cell_ 0 _ rfl
      have t1 := RB.cell_ 1 _ rfl
      have t2 := RB.cell_ 2 _ rfl
      clear z0 z1 z2 fz
      refine bodyPost_ret (v := .agg #[.int .i64 4, .string ⟨#[98, 101, 103, 117, 110, 32, 97, 108, 114, 101, 97, 100, 121]⟩, .int .i64 0]) (by simp [results, Tryd.results72, go_sem, t0, t1, t2]) rfl ?_
      rw [HRR.out]
      exact D4.out.fin (W, noA tBegun) rfl _ _ _ _ rfl

  have q1 : (k == 1) = false := by simpa using hk1
  by_cases h0 : (W.se i).st = 0
  · have g3 : ((W.se i).st == 0) = true := by simpa using h0
    have HRR := Lib.hid (show transW W i k = (W, noA tNoTx) by unfold transW; rw [if_neg (fun h => hk1 h.1), if_neg hk1, if_pos h0])
    clear hk
    go_wp2_with fail
    refine (failed_any _ _).mono ?_
    rintro e x4 ⟨rfl, b4⟩
    have D4 := Lib.hid (D1.out.keep b4)
    have z0 := D4.out.res.cell_ 0 _ rfl
    have z1 := D4.out.res.cell_ 1 _ rfl
    have z2 := D4.out.res.cell_ 2 _ rfl
    have fz := D4.out.res.frozen
    clear b4 c0
    go_wp2_with fail
    have RB := (((D4.out.res).set_ 0 (.int .i64 4)).set_ 1 (.string ⟨#[110, 111, 32, 116, 114, 97, 110, 115, 97, 99, 116, 105, 111, 110]⟩)).set_ 2 (.int .i64 0)
    have t0 := RB.cell_ 0 _ rfl
    have t1 := RB.cell_ 1 _ rfl
    have t2 := RB.cell_ 2 _ rfl
    clear z0 z1 z2 fz
    refine bodyPost_ret (v := .agg #[.int .i64 4, .string ⟨#[110, 111, 32, 116, 114, 97, 110, 115, 97, 99, 116, 105, 111, 110]⟩, .int .i64 0]) (by simp [results, Tryd.results72, go_sem, t0, t1, t2]) rfl ?_
    rw [HRR.out]
    exact D4.out.fin (W, noA tNoTx) rfl _ _ _ _ rfl

  have g3 : ((W.se i).st == 0) = false := by simpa using h0
  by_cases h2 : k = 2
  · have q2 : (k == 2) = true := by simpa using h2
    by_cases h1 : (W.se i).st = 1
    · have g4 : ((W.se i).st == 1) = true := by simpa using h1
      have HRR := Lib.hid (show transW W i k = (endW W i true, okA) by unfold transW; rw [if_neg (fun h => hk1 h.1), if_neg hk1, if_neg h0]; simp [h2, h1])
      clear hk
      go_wp2_with fail
      refine (end_yes w0 _ bv bw g cap i W D1.out.sv HG.out).mono ?_
      rintro e x4 ⟨rfl, sv4, o4⟩
      have D4 := Lib.hid (D1.out.step sv4 o4)
      have z0 := D4.out.res.cell_ 0 _ rfl
      have z1 := D4.out.res.cell_ 1 _ rfl
      have z2 := D4.out.res.cell_ 2 _ rfl
      have fz := D4.out.res.frozen
      clear sv4 o4 c0
      go_wp2_with fail
      have RB := (((D4.out.res).set_ 0 (.int .i64 1)).set_ 1 (.string ⟨#[]⟩)).set_ 2 (.int .i64 0)
      have t0 := RB.cell_ 0 _ rfl
      have t1 := RB.cell_ 1 _ rfl
      have t2 := RB.cell_ 2 _ rfl
      clear z0 z1 z2 fz
      refine bodyPost_ret (v := .agg #[.int .i64 1, .string ⟨#[]⟩, .int .i64 0]) (by simp [results, Tryd.results72, go_sem, t0, t1, t2]) rfl ?_
      rw [HRR.out]
      exact D4.out.fin (_, okA) rfl _ _ _ _ rfl

    · have g4 : ((W.se i).st == 1) = false := by simpa using h1
      have HRR := Lib.hid (show transW W i k = (endW W i false, okA) by unfold transW; rw [if_neg (fun h => hk1 h.1), if_neg hk1, if_neg h0]; simp [h1])
      clear hk
      go_wp2_with fail
      refine (end_no w0 _ bv bw g cap i W D1.out.sv HG.out.few).mono ?_
      rintro e x4 ⟨rfl, sv4, o4⟩
      have D4 := Lib.hid (D1.out.step sv4 o4)
      have z0 := D4.out.res.cell_ 0 _ rfl
      have z1 := D4.out.res.cell_ 1 _ rfl
      have z2 := D4.out.res.cell_ 2 _ rfl
      have fz := D4.out.res.frozen
      clear sv4 o4 c0
      go_wp2_with fail
      have RB := (((D4.out.res).set_ 0 (.int .i64 1)).set_ 1 (.string ⟨#[]⟩)).set_ 2 (.int .i64 0)
      have t0 := RB.cell_ 0 _ rfl
      have t1 := RB.cell_ 1 _ rfl
      have t2 := RB.cell_ 2 _ rfl
      clear z0 z1 z2 fz
      refine bodyPost_ret (v := .agg #[.int .i64 1, .string ⟨#[]⟩, .int .i64 0]) (by simp [results, Tryd.results72, go_sem, t0, t1, t2]) rfl ?_
      rw [HRR.out]
      exact D4.out.fin (_, okA) rfl _ _ _ _ rfl

  · have q2 : (k == 2) = false := by simpa using h2
    have HRR := Lib.hid (show transW W i k = (endW W i false, okA) by unfold transW; rw [if_neg (fun h => hk1 h.1), if_neg hk1, if_neg h0]; simp [h2])
    clear hk
    go_wp2_with fail
    refine (end_no w0 _ bv bw g cap i W D1.out.sv HG.out.few).mono ?_
    rintro e x4 ⟨rfl, sv4, o4⟩
    have D4 := Lib.hid (D1.out.step sv4 o4)
    have z0 := D4.out.res.cell_ 0 _ rfl
    have z1 := D4.out.res.cell_ 1 _ rfl
    have z2 := D4.out.res.cell_ 2 _ rfl
    have fz := D4.out.res.frozen
    clear sv4 o4 c0
    go_wp2_with fail
    have RB := (((D4.out.res).set_ 0 (.int .i64 1)).set_ 1 (.string ⟨#[]⟩)).set_ 2 (.int .i64 0)
    have t0 := RB.cell_ 0 _ rfl
    have t1 := RB.cell_ 1 _ rfl
    have t2 := RB.cell_ 2 _ rfl
    clear z0 z1 z2 fz
    refine bodyPost_ret (v := .agg #[.int .i64 1, .string ⟨#[]⟩, .int .i64 0]) (by simp [results, Tryd.results72, go_sem, t0, t1, t2]) rfl ?_
    rw [HRR.out]
    exact D4.out.fin (_, okA) rfl _ _ _ _ rfl

end Go.Proofs.YtjbnfigpflambabDoor
