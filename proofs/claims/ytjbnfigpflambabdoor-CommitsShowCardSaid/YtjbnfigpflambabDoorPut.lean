/- (server).put: a row is put. -/
import Derived.Test.YtjbnfigpflambabDoorMeth
namespace Go.Proofs.YtjbnfigpflambabDoor
open Go.ChangeShapes Go.WideShapes Go.ChangeAt Go.RowKit

set_option maxHeartbeats 4000000 in
set_option maxRecDepth 100000 in
theorem put_any (w0 w : World) (bv bw g cap i : Nat) (W : Wo) (k v : ByteArray) (hS : SvAt w0 w bv bw g cap i W) (hG : Good W) (hk : k.size ≤ maxLen) (hv : v.size ≤ maxLen) :
    Calls Tryd.prog 76 #[.pointer (some ⟨bv, 0, none⟩), .string k, .string v] w (SvR w0 w bv bw g cap i (putW W i k v)) := by
  have HG := Lib.hid hG
  have HKV := Lib.hid (And.intro hk hv)
  have hfew := hG.few
  have hi := hS.hi
  have hsl := hS.sl (by have := hG.few; omega)
  have D0 := Lib.hid (Mth.start hS)
  obtain ⟨Ar, cr, A1, k1, A2, k2, A3, k3, A4, k4, V⟩ := hS.view
  have V0 := Lib.hid (V.keep (boxed w (.cells #[.int .i64 0, .string ⟨#[]⟩, .int .i64 0] 48)))
  obtain ⟨n, hn⟩ : ∃ n, W.ses.length = n := ⟨_, rfl⟩
  rw [hn] at V0 hi hfew
  have HN := Lib.hid hn
  obtain ⟨b, hb⟩ : ∃ b, w.heap.size = b := ⟨_, rfl⟩
  rw [hb] at D0
  have HB := Lib.hid hb
  have HS := Lib.hid hS
  have g1 : (i : Int) < (n : Int) := by omega
  have g2 : (0 : Int) ≤ (i : Int) := by omega
  clear hG hk hv hS V hn hsl
  go_enter Tryd.func76, Tryd.ntmps76
  go_wp2_with fail
  generalize w.alloc (.cells #[.int .i64 0, .string ⟨#[]⟩, .int .i64 0] 48 (0, 0)) = x0 at D0 V0 ⊢
  clear HB hb
  have s0 := (V0.out.keep (Below.refl _ _).drew).s0
  have s1 := (V0.out.keep (Below.refl _ _).drew).s1
  have b0 := (V0.out.keep (Below.refl _ _).drew).b0
  have b1 := (V0.out.keep (Below.refl _ _).drew).b1
  refine region_segs [] (by kernel_rfl) ?_
  refine anyB_seg [0, 1, 2, 3, 4, 5, 6, 7, 8, 9, 10, 11, 12] 0 rfl (by kernel_rfl) (by kernel_rfl) (by kernel_rfl) (fun _ _ d _ _ h => by cases d <;> exact h) ?_
  simp only [pickOps, List.getElem?_toArray, List.getElem?_cons_zero, List.getElem?_cons_succ]
  go_wp2_with fail
  refine ⟨rfl, by rfl, ?_⟩
  refine anyB_done (by kernel_rfl) ?_ _
  have D1 := Lib.hid (D0.out.keep (Below.refl _ _).drew)
  have V1 := Lib.hid (V0.out.keep (Below.refl _ _).drew)
  clear s0 s1 b0 b1
  generalize x0.drew = x1 at D1 V1 ⊢
  clear D0 V0
  go_wp2_with fail
  have s0 := (V1.out.keep (Below.refl _ _).drew).s0
  have s1 := (V1.out.keep (Below.refl _ _).drew).s1
  have b0 := (V1.out.keep (Below.refl _ _).drew).b0
  have b1 := (V1.out.keep (Below.refl _ _).drew).b1
  refine region_segs [] (by kernel_rfl) ?_
  refine anyB_seg [0, 1, 2, 3, 4, 5, 6, 7, 8, 9, 10] 1 rfl (by kernel_rfl) (by kernel_rfl) (by kernel_rfl) (fun _ _ d _ _ h => by cases d <;> exact h) ?_
  simp only [pickOps, List.getElem?_toArray, List.getElem?_cons_zero, List.getElem?_cons_succ]
  go_wp2_with fail
  refine ⟨rfl, by rfl, ?_⟩
  refine anyB_one (i := 11) (by kernel_rfl) rfl (fun K hK => ?_)
  go_simp
  have D2 := Lib.hid (D1.out.keep (Below.refl _ _).drew)
  have V2 := Lib.hid (V1.out.keep (Below.refl _ _).drew)
  clear s0 s1 b0 b1
  generalize x1.drew = x2 at D2 V2 hK ⊢
  clear D1 V1
  refine (held_any _ _ _ W.ses i k (by have := D2.out.sv.sl (by rw [HN.out]; omega); rw [HN.out] at this; exact this) rfl (by omega)).mono ?_
  rintro e x3 ⟨hd, rfl, hh, b3⟩
  refine hK.out _ _ (fun _ => b3) ?_
  clear hK K
  have hhd : hd = heldB W.ses i k := hh.sorted (fun j => by
    by_cases hj : j < W.ses.length
    · exact (HG.out.se hj).wriS
    · have e : W.ses.getD j Se.new = Se.new := by rw [List.getD_eq_getElem?_getD, List.getElem?_eq_none (by omega)]; rfl
      rw [e]
      exact List.Pairwise.nil)
  have HH := Lib.hid hhd
  have D3 := Lib.hid (D2.out.keep b3)
  have V3 := Lib.hid (V2.out.keep b3)
  clear hh hhd b3 D2 V2
  refine anyB_done (by kernel_rfl) ?_ _
  cases hd with
  | true =>
    have HRR := Lib.hid (show putW W i k v = (W, noA tHeld) by unfold putW; rw [if_pos HH.out.symm])
    go_wp2_with fail
    refine (failed_any _ _).mono ?_
    rintro e x4 ⟨rfl, b4⟩
    have D4 := Lib.hid (D3.out.keep b4)
    have z0 := D4.out.res.cell_ 0 _ rfl
    have z1 := D4.out.res.cell_ 1 _ rfl
    have z2 := D4.out.res.cell_ 2 _ rfl
    have fz := D4.out.res.frozen
    clear b4
    go_wp2_with fail
    have RB := (((D4.out.res).set_ 0 (.int .i64 4)).set_ 1 (.string ⟨#[104, 101, 108, 100]⟩)).set_ 2 (.int .i64 0)
    have t0 := RB.cell_ 0 _ rfl
    have t1 := RB.cell_ 1 _ rfl
    have t2 := RB.cell_ 2 _ rfl
    clear z0 z1 z2 fz
    refine bodyPost_ret (v := .agg #[.int .i64 4, .string ⟨#[104, 101, 108, 100]⟩, .int .i64 0]) (by simp [results, Tryd.results76, go_sem, t0, t1, t2]) rfl ?_
    rw [HRR.out]
    exact D4.out.fin (W, noA tHeld) rfl _ _ _ _ rfl
  | false =>
    have s0 := V3.out.s0
    have b0 := V3.out.b0
    go_wp2_with fail
    refine (find_any _ _ W.rows k V3.out.o0.pl).mono ?_
    rintro e x4 ⟨ir, br, rfl, hf4, b4⟩
    have HFR := Lib.hid (hf4.sorted HG.out.rowsS)
    have D4 := Lib.hid (D3.out.keep b4)
    have V4 := Lib.hid (V3.out.keep b4)
    clear hf4 b4 s0 b0 D3 V3
    have c4 := V4.out.c4
    go_wp2_with fail
    refine (find_any _ _ (W.se i).wri k V4.out.o4.pl).mono ?_
    rintro e x5 ⟨iw, bw5, rfl, hf5, b5⟩
    have HFW := Lib.hid (hf5.sorted (HG.out.se (by rw [HN.out]; exact hi)).wriS)
    have D5 := Lib.hid (D4.out.keep b5)
    have V5 := Lib.hid (V4.out.keep b5)
    clear hf5 b5 c4 D4 V4
    obtain ⟨F, hF⟩ : ∃ F, decide (hasK W.rows k = false ∧ hasK (W.se i).wri k = false ∧ card (keysW W) = 100) = F := ⟨_, rfl⟩
    have XF := Lib.hid hF
    clear hF
    go_upto_region 6 with fail
    go_cut [73] (fun t wc => t = .bool F ∧ Mth w0 w wc bv bw g cap i b W ∧ Vw wc w0.heap.size bv bw g cap i n W.rows (W.se i) Ar cr A1 k1 A2 k2 A3 k3 A4 k4)
    case first =>
      cases br with
      | true =>
        have HF := Lib.hid (show F = false by rw [← XF.out, ← HFR.out.2]; simp)
        go_wp2_with fail
        go_meet
        exact ⟨by rw [HF.out], D5.out, V5.out⟩
      | false =>
        cases bw5 with
        | true =>
          have HF := Lib.hid (show F = false by rw [← XF.out, ← HFW.out.2]; simp)
          go_wp2_with fail
          go_meet
          exact ⟨by rw [HF.out], D5.out, V5.out⟩
        | false =>
          have HF := Lib.hid (show F = decide (card (keysW W) = 100) by rw [← XF.out, ← HFW.out.2, ← HFR.out.2]; simp)
          have s0 := V5.out.s0
          have b0 := V5.out.b0
          have b1 := V5.out.b1
          go_wp2_with fail
          refine (total_any _ _ _ W (by have := D5.out.sv.wl (by rw [HN.out]; omega) V5.out.o0; rw [HN.out] at this; exact this) (by have := ((pairs_iff _ _ _).1 HG.out.rows).2.2; omega) (by rw [HN.out]; omega) (fun t ht => by obtain ⟨j, hj, rfl⟩ := List.getElem_of_mem ht; have := ((pairs_iff _ _ _).1 (HG.out.se hj).wri).2.2; unfold Wo.se at this; rw [getD_at hj] at this; omega)).mono ?_
          rintro e x6 ⟨rfl, b6⟩
          have D6 := Lib.hid (D5.out.keep b6)
          have V6 := Lib.hid (V5.out.keep b6)
          clear b6 s0 b0 b1
          obtain ⟨q, hq⟩ : ∃ q, card (keysW W) = q := ⟨_, rfl⟩
          rw [hq] at HF ⊢
          clear hq
          by_cases h100 : q = 100
          · have g3 : ((q : Int) == 100) = true := by simp; omega
            have HF2 := Lib.hid (show F = true by rw [HF.out]; simpa using h100)
            clear h100
            go_wp2_with fail
            go_meet
            exact ⟨by rw [HF2.out], D6.out, V6.out⟩
          · have g3 : ((q : Int) == 100) = false := by simp; omega
            have HF2 := Lib.hid (show F = false by rw [HF.out]; simpa using h100)
            clear h100
            go_wp2_with fail
            go_meet
            exact ⟨by rw [HF2.out], D6.out, V6.out⟩
    case rest =>
      obtain ⟨rfl, hD, hV⟩ := hcut
      have D7 := Lib.hid hD
      have V7 := Lib.hid hV
      clear hD hV D5 V5 HFR HFW
      cases F with
      | true =>
        have HRR := Lib.hid (show putW W i k v = (W, noA tFull) by unfold putW; rw [if_neg (by rw [← HH.out]; decide), if_pos (of_decide_eq_true XF.out)])
        go_wp2_with fail
        refine (failed_any _ _).mono ?_
        rintro e x8 ⟨rfl, b8⟩
        have D8 := Lib.hid (D7.out.keep b8)
        have z0 := D8.out.res.cell_ 0 _ rfl
        have z1 := D8.out.res.cell_ 1 _ rfl
        have z2 := D8.out.res.cell_ 2 _ rfl
        have fz := D8.out.res.frozen
        clear b8
        go_wp2_with fail
        have RB := (((D8.out.res).set_ 0 (.int .i64 4)).set_ 1 (.string ⟨#[102, 117, 108, 108]⟩)).set_ 2 (.int .i64 0)
        have t0 := RB.cell_ 0 _ rfl
        have t1 := RB.cell_ 1 _ rfl
        have t2 := RB.cell_ 2 _ rfl
        clear z0 z1 z2 fz
        refine bodyPost_ret (v := .agg #[.int .i64 4, .string ⟨#[102, 117, 108, 108]⟩, .int .i64 0]) (by simp [results, Tryd.results76, go_sem, t0, t1, t2]) rfl ?_
        rw [HRR.out]
        exact D8.out.fin (W, noA tFull) rfl _ _ _ _ rfl
      | false =>
        have hNF := of_decide_eq_false XF.out
        by_cases hst : (W.se i).st = 1
        · have HRR := Lib.hid (show putW W i k v = (W.put i ⟨(W.se i).st, (W.se i).set, (W.se i).pre, (W.se i).sav, plusP (W.se i).wri k v⟩, okA) by unfold putW; rw [if_neg (by rw [← HH.out]; decide), if_neg hNF, if_pos hst])
          have g3 : ((W.se i).st == 1) = true := by simpa using hst
          clear hst hNF
          have c0 := V7.out.c0
          have c4 := V7.out.c4
          go_wp2_with fail
          refine (with_any _ _ (W.se i).wri k v V7.out.o4.pl (HG.out.se (by rw [HN.out]; exact hi)).wriS (by have := ((pairs_iff _ _ _).1 (HG.out.se (by rw [HN.out]; exact hi)).wri).2.2; omega) HKV.out.1 HKV.out.2).mono ?_
          rintro e x8 ⟨u8, rfl, o8, b8⟩
          have D8 := Lib.hid (D7.out.keep b8)
          have V8 := Lib.hid (V7.out.keep b8)
          have O8 := Lib.hid (o8.base D7.out.sv.bel.size)
          obtain ⟨A8, k8, rfl⟩ := o8.form
          obtain ⟨m8, hm8⟩ : ∃ m8, (plusP (W.se i).wri k v).length = m8 := ⟨_, rfl⟩
          rw [hm8] at O8 ⊢
          clear c0 c4 o8 b8 hm8
          have D9 := Lib.hid (D8.out.set_4 O8.out)
          have z0 := D8.out.res.cell_ 0 _ rfl
          have z1 := D8.out.res.cell_ 1 _ rfl
          have z2 := D8.out.res.cell_ 2 _ rfl
          have fz := D8.out.res.frozen
          have ng := D8.out.ng
          have c4 := V8.out.c4
          have fg := V8.out.fg
          go_wp2_with fail
          have RB := (((D9.out.res).set_ 0 (.int .i64 1)).set_ 1 (.string ⟨#[]⟩)).set_ 2 (.int .i64 0)
          have t0 := RB.cell_ 0 _ rfl
          have t1 := RB.cell_ 1 _ rfl
          have t2 := RB.cell_ 2 _ rfl
          clear z0 z1 z2 fz
          refine bodyPost_ret (v := .agg #[.int .i64 1, .string ⟨#[]⟩, .int .i64 0]) (by simp [results, Tryd.results76, go_sem, t0, t1, t2]) rfl ?_
          rw [HRR.out]
          exact D9.out.fin (_, okA) rfl _ _ _ _ rfl
        · have HRR := Lib.hid (show putW W i k v = (⟨plusP W.rows k v, W.ses⟩, okA) by unfold putW; rw [if_neg (by rw [← HH.out]; decide), if_neg hNF, if_neg hst])
          have g3 : ((W.se i).st == 1) = false := by simpa using hst
          clear hst hNF
          have c0 := V7.out.c0
          go_upto_region 10 with fail
          have s0 := (V7.out.keep (Below.refl _ _).drew).s0
          have b0 := (V7.out.keep (Below.refl _ _).drew).b0
          clear c0
          refine region_segs [16] (by kernel_rfl) ?_
          refine anyB_seg [0, 1, 2, 3, 4, 5, 6, 7, 8, 9, 10, 11, 12] 4 rfl (by kernel_rfl) (by kernel_rfl) (by kernel_rfl) (fun _ _ d _ _ h => by cases d <;> exact h) ?_
          simp only [pickOps, List.getElem?_toArray, List.getElem?_cons_zero, List.getElem?_cons_succ]
          go_wp2_with fail
          refine ⟨rfl, by rfl, ?_⟩
          refine anyB_one (i := 13) (by kernel_rfl) rfl (fun K hK => ?_)
          go_simp
          have D8 := Lib.hid (D7.out.keep (Below.refl _ _).drew)
          have V8 := Lib.hid (V7.out.keep (Below.refl _ _).drew)
          clear s0 b0
          generalize World.drew _ = x8 at D8 V8 hK ⊢
          clear D7 V7
          refine (with_any _ _ W.rows k v V8.out.o0.pl HG.out.rowsS (by have := ((pairs_iff _ _ _).1 HG.out.rows).2.2; omega) HKV.out.1 HKV.out.2).mono ?_
          rintro e x9 ⟨u9, rfl, o9, b9⟩
          refine hK.out _ _ (fun _ => b9) ?_
          clear hK K
          have D9 := Lib.hid (D8.out.keep b9)
          have V9 := Lib.hid (V8.out.keep b9)
          have O9 := Lib.hid (o9.base D8.out.sv.bel.size)
          obtain ⟨A9, k9, rfl⟩ := o9.form
          obtain ⟨m9, hm9⟩ : ∃ m9, (plusP W.rows k v).length = m9 := ⟨_, rfl⟩
          rw [hm9] at O9 ⊢
          clear o9 b9 hm9 D8 V8
          refine anyB_seg [14, 15] 1 rfl (by kernel_rfl) (by kernel_rfl) (by kernel_rfl) (fun _ _ d _ _ h => by cases d <;> exact h) ?_
          simp only [pickOps, List.getElem?_toArray, List.getElem?_cons_zero, List.getElem?_cons_succ]
          go_wp2_with fail
          refine ⟨rfl, by rfl, ?_⟩
          have b0 := V9.out.b0
          have fb := V9.out.fb
          refine anyB_one (i := 16) (by kernel_rfl) rfl (fun K hK => ?_)
          go_simp
          have D10 := Lib.hid (D9.out.set_r O9.out)
          refine hK.out _ _ (fun h => absurd (by decide) h) ?_
          clear hK K
          refine anyB_done (by kernel_rfl) ?_ _
          clear b0 fb
          have z0 := D10.out.res.cell_ 0 _ rfl
          have z1 := D10.out.res.cell_ 1 _ rfl
          have z2 := D10.out.res.cell_ 2 _ rfl
          have fz := D10.out.res.frozen
          go_wp2_with fail
          have RB := (((D10.out.res).set_ 0 (.int .i64 1)).set_ 1 (.string ⟨#[]⟩)).set_ 2 (.int .i64 0)
          have t0 := RB.cell_ 0 _ rfl
          have t1 := RB.cell_ 1 _ rfl
          have t2 := RB.cell_ 2 _ rfl
          clear z0 z1 z2 fz
          refine bodyPost_ret (v := .agg #[.int .i64 1, .string ⟨#[]⟩, .int .i64 0]) (by simp [results, Tryd.results76, go_sem, t0, t1, t2]) rfl ?_
          rw [HRR.out]
          exact D10.out.fin (_, okA) rfl _ _ _ _ rfl
end Go.Proofs.YtjbnfigpflambabDoor
