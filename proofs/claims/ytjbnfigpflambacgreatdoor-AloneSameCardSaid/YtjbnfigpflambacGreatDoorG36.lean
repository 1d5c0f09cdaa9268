/- The walk of AloneSame: it returns true. -/
import Derived.Test.YtjbnfigpflambacGreatDoorG35
/- The walk of AloneSame: it returns true. -/
namespace Go.Proofs.YtjbnfigpflambacGreatDoor
open Go.ChangeShapes Go.WideShapes Go.ChangeAt Go.RowKit
set_option maxHeartbeats 16000000 in
set_option maxRecDepth 100000 in
theorem aloneSame_walk (W0 : World) (hT : Tabs W0) (v : Value) (l : List Rw) (hl : RL W0 W0.heap.size v l) (by_ : Bool) (m : Int) (hm : (Lit.int .i64 m).wf = true) :
  Calls Tryz.prog 4 #[v, .bool by_, .int .i64 m] W0 fun e w' => e = .returned (.bool true) ∧ Below W0.heap.size W0 w' := by
 obtain ⟨i0, hi0, hz0, hz1, hz2⟩ := info_parts str_info
 obtain ⟨j0, hj0, jz0, jz1, jz2⟩ := info_parts act_info
 have HT := Lib.hid hT
 have HL := Lib.hid hl
 have HMW := Lib.hid hm
 obtain ⟨A, cap, rfl, hc1, hc2, _⟩ := hl
 obtain ⟨N, hN⟩ : ∃ N, l.length = N := ⟨_, rfl⟩
 rw [hN] at hc1 ⊢
 have HN := Lib.hid hN
 obtain ⟨n, hn, hn1, hn4⟩ : ∃ n : Nat, 1 + pick m 4 = (n : Int) ∧ 1 ≤ n ∧ n ≤ 4 := ⟨(1 + pick m 4).toNat, by have := pick_bd m 4 (by decide); omega, by have := pick_bd m 4 (by decide); omega, by have := pick_bd m 4 (by decide); omega⟩
 obtain ⟨c, hc, hc6⟩ : ∃ c : Nat, pick m 6 = (c : Int) ∧ c < 6 := ⟨(pick m 6).toNat, by have := pick_bd m 6 (by decide); omega, by have := pick_bd m 6 (by decide); omega⟩
 have hp0 : pick 0 3 = 0 := by decide
 have MK : ∀ w : World, (Instr.makeSlice 37 (.int .i64 1) (.int .i64 1)).run Tryz.prog w = .ok (.slice (some ⟨w.heap.size, 0, none⟩) 1 1) (w.alloc (.cells #[.int .i64 0, .slice none 0 0, .slice none 0 0, .slice none 0 0, .slice none 0 0] 133 (0, 0))) := fun _ => by kernel_rfl
 have HC := Lib.hid hc
 clear hT hN hc hm
 go_enter Tryz.func4, Tryz.ntmps4
 go_wp2_with fail
 refine (ksetup_any 0 m _ (by decide) HMW.out).mono ?_
 rintro e w1 ⟨rfl, b1⟩
 rw [hn, hp0, show (1 : Int) + 0 = 1 from rfl]
 have B2 := Lib.hid (below_step b1 (Nat.le_refl _) (boxed w1 (.cells #[.int .i64 1, .int .i64 (n : Nat)] 23)))
 have S2 := Lib.hid (Blk.new w1 23 #[.int .i64 1, .int .i64 (n : Nat)])
 obtain ⟨qs, hqs⟩ : ∃ z, w1.heap.size = z := ⟨_, rfl⟩
 have HQ := Lib.hid (show W0.heap.size ≤ qs by rw [← hqs]; exact b1.size)
 rw [hqs] at S2
 clear b1 hn hp0
 go_upto_region 2 with fail
 generalize World.alloc _ _ = w2 at B2 S2 ⊢
 clear hqs
 have s0 := S2.out.cell_ 0 _ rfl
 have fs := S2.out.frozen
 go_upto_if 24 with fail
 go_cut [] (fun wc => ∃ mode : Int, (mode = 1 ∨ mode = 2) ∧ Below W0.heap.size W0 wc ∧ Blk wc qs 23 #[.int .i64 mode, .int .i64 (n : Nat)])
 case first =>
  cases by_ with
  | true =>
   go_wp2_with fail
   go_meet
   exact ⟨2, .inr rfl, B2.out.setCell (p := ⟨qs, 0, none⟩) HQ.out _, S2.out.set_ 0 _⟩
  | false =>
   go_wp2_with fail
   go_meet
   exact ⟨1, .inl rfl, B2.out, S2.out⟩
 case rest =>
  obtain ⟨mode, hmode, hb2, hs2⟩ := hcut
  have HMD := Lib.hid hmode
  have M0 : Hid (AlAt W0 ((wc.alloc (.cells #[.int .i64 0, .slice none 0 0, .slice none 0 0, .slice none 0 0, .slice none 0 0] 133 (0, 0))).alloc (.cells #[.slice none 0 0, .slice (some ⟨wc.heap.size, 0, none⟩) 1 1] 39)) qs (wc.heap.size + 1) mode n ⟨[], [Se.new]⟩ [] [] (.slice none 0 0) (.slice none 0 0)) := Lib.hid (by
   have b1 := Blk.new wc 133 #[.int .i64 0, .slice none 0 0, .slice none 0 0, .slice none 0 0, .slice none 0 0]
   have b2 := Blk.new1 wc (.cells #[.int .i64 0, .slice none 0 0, .slice none 0 0, .slice none 0 0, .slice none 0 0] 133) 39 #[.slice none 0 0, .slice (some ⟨wc.heap.size, 0, none⟩) 1 1]
   refine ⟨(hb2.alloc hb2.size _).alloc (by have := hb2.size; simp; omega) _, ⟨_, _, b2, OPL.nil_ _ _, [.int .i64 0, .slice none 0 0, .slice none 0 0, .slice none 0 0, .slice none 0 0], ⟨?_, ?_⟩⟩, (hs2.alloc _).alloc _, World.ownsRow_nil _ _ _ _, World.ownsRow_nil _ _ _ _, by have := hb2.size; omega⟩
   ·exact ⟨rfl, .inr ⟨wc.heap.size, 1, _, rfl, hb2.size, b1.alloc _, Nat.le_refl _, by unfold maxLen; omega, rfl, rfl⟩⟩
   ·exact ⟨_, _, _, _, [], rfl, OPL.nil_ _ _, OPL.nil_ _ _, OPL.nil_ _ _, OPL.nil_ _ _, by simp [Se.new], rfl⟩)
  obtain ⟨q, hq⟩ : ∃ z, wc.heap.size + 1 = z := ⟨_, rfl⟩
  rw [hq] at M0
  clear hmode hb2 hs2 B2 S2 s0 fs
  go_wp2_with fail
  generalize World.alloc (World.alloc _ _) _ = w4 at M0 ⊢
  clear hq MK
  go_loopw [9, 10, 11] (fun va vw vi wx => ∃ k : Nat, k ≤ N ∧ k ≤ 40 ∧ vi = .int .i64 k ∧ AlAt W0 wx qs q mode n (alx (l.take k)).1 (alx (l.take k)).2 ((l.take k).map (acQ c)) va vw) (fun _ _ vi _ => N - (intOf vi).toNat)
  case atStart => exact ⟨0, Nat.zero_le _, Nat.zero_le _, rfl, M0.out⟩
  case round =>
   obtain ⟨k, hk, hk40, rfl, hM⟩ := hrel
   by_cases hlt : k < N ∧ k < 40
   ·have g1 : (k : Int) < (N : Int) := by omega
    have g2 : (0 : Int) ≤ (k : Int) := by omega
    have g3 : (k : Int) < 40 := by omega
    have hkl : k < l.length := by rw [HN.out]; exact hlt.1
    obtain ⟨_, _, e0, _, _, hrow, hwf⟩ := HL.out
    injection e0 with e1 e2 e3
    subst e3
    obtain ⟨ad, hA, hB, hat⟩ := hrow (by omega)
    rw [hA] at e1
    subst e1
    obtain ⟨x, hx⟩ : ∃ x, l[k] = x := ⟨_, rfl⟩
    have hR := (hat k hkl).below (by rw [block_of_add]; exact hB) hM.bel
    have hW := hwf l[k] (List.getElem_mem hkl)
    rw [hx] at hR hW
    have htk : l.take (k + 1) = l.take k ++ [x] := by rw [List.take_succ_eq_append_getElem hkl, hx]
    have hsn := alx_snoc (l.take k) x
    rw [← htk] at hsn
    have hmp : (l.take (k + 1)).map (acQ c) = (l.take k).map (acQ c) ++ [acQ c x] := by rw [htk, List.map_append]; rfl
    obtain ⟨hgd, hg1⟩ := alx_good (l.take k)
    have hln : (alx (l.take k)).2.length = k := by rw [alx_len, List.length_take]; omega
    have hla : ((l.take k).map (acQ c)).length = k := by rw [List.length_map, List.length_take]; omega
    obtain ⟨P, hP⟩ : ∃ P, alx (l.take k) = P := ⟨_, rfl⟩
    obtain ⟨AC, hAC⟩ : ∃ AC, (l.take k).map (acQ c) = AC := ⟨_, rfl⟩
    rw [hP] at hM hsn hgd hg1 hln
    rw [hAC] at hM hmp hla
    obtain ⟨V, ts⟩ := P
    simp only at hM hsn hgd hg1 hln
    have hck := (raw_ok x.k x.a x.b x.c).1
    have hsz := raw_size x.k x.a x.b x.c
    have hft := doW_fit hgd (i := 0) (by rw [hg1]; decide) (x := x.st) hck
    have HMG := Lib.hid (fun (u : World) (hT : Tabs u) => raw_message x.k x.a x.b x.c u hT)
    obtain ⟨R, hRD⟩ : ∃ R, doW V 0 x.st = R := ⟨_, rfl⟩
    rw [hRD] at hsn hft
    obtain ⟨V2, aK, aT, aS⟩ := R
    simp only at hsn hft
    have HSN := Lib.hid hsn
    have HMP := Lib.hid hmp
    have HFT := Lib.hid hft
    have HLN := Lib.hid hln
    have HLA := Lib.hid hla
    have HWF := Lib.hid hW
    obtain ⟨a0, a1, a2, a3⟩ := hR
    obtain ⟨xk, xa, xb, xc⟩ := x
    obtain ⟨y, hy⟩ : ∃ y, rawS xk xa xb xc = y := ⟨_, rfl⟩
    have hy2 : Rw.st ⟨xk, xa, xb, xc⟩ = y := hy
    simp only at hck hsz HMG
    rw [hy] at hck hsz HMG
    rw [hy2] at hRD
    have hsaid : saidL 0 [y] (V, An.no) = (V2, ⟨aK, aT, aS⟩) := hRD
    have HSD := Lib.hid (fun (u : World) (r s v' : Value) (hb : Below W0.heap.size W0 u) (hw : WL u u.heap.size r s V) (hv' : StL u u.heap.size v' [y]) => said_any u r s v' V 0 [y] (HT.out.below hb) hw hgd (by rw [hg1]; decide) hv' (by simpa using hck) (by intro z hz; rw [List.mem_singleton] at hz; subst hz; unfold maxLen; omega) (by simp))
    rw [hsaid] at HSD
    have HM := Lib.hid hM
    have HMQ := Lib.hid (show (acQ c ⟨xk, xa, xb, xc⟩) = ⟨1, (c : Int), msgQ y⟩ by unfold acQ; rw [hy2])
    have HST := Lib.hid hy
    have hg2 := (alx_good (l.take (k + 1))).2
    rw [hsn] at hg2
    have HG2 := Lib.hid (show V2.ses.length = 1 from hg2)
    have HG1 := Lib.hid hg1
    obtain ⟨yk, ykey, yval⟩ := y
    clear hsn hmp hft hln hla hW hck hsz hRD hsaid hM hy hy2 hg2 hg1 hgd hP hAC hx htk hkl hwf hrow hat
    go_wp2_with fail
    refine (stmt_any _ _ _ _ HWF.out.k HWF.out.a HWF.out.b HWF.out.c _).mono ?_
    rintro e w5 ⟨rfl, b5⟩
    rw [HST.out]
    unfold St.v
    have M6 := Lib.hid ((HM.out.keep b5).keep (boxed w5 (.cells #[.int .i64 yk, .string ykey, .string yval] 41)))
    have Y6 := Lib.hid (Blk.new w5 41 #[.int .i64 yk, .string ykey, .string yval])
    obtain ⟨z12, hz12⟩ : ∃ z, w5.heap.size = z := ⟨_, rfl⟩
    rw [hz12] at Y6
    clear a0 a1 a2 a3 b5 HM
    go_upto_region 11 with fail
    generalize World.alloc _ _ = w6 at M6 Y6 ⊢
    clear hz12
    obtain ⟨r0, s0, yb, o1, cs0, o2⟩ := M6.out.box.box
    obtain ⟨Ar, cr, rfl⟩ := o1.form
    obtain ⟨As, ca, rfl⟩ := own_slice o2.own
    have y0 := yb.cell_ 0 _ rfl
    have y1 := yb.cell_ 1 _ rfl
    have x0 := Y6.out.cell_ 0 _ rfl
    have x1 := Y6.out.cell_ 1 _ rfl
    have x2 := Y6.out.cell_ 2 _ rfl
    have bb := boxed w6 (.cells #[.int .i64 yk, .string ykey, .string yval] 41)
    have HWL := Lib.hid (show WL (w6.alloc (.cells #[.int .i64 yk, .string ykey, .string yval] 41)) (w6.alloc (.cells #[.int .i64 yk, .string ykey, .string yval] 41)).heap.size (.slice Ar V.rows.length cr) (.slice As V.ses.length ca) V from ⟨(o1.keeps (.of_below bb)).pl, (osl_keeps o2 (.of_below bb) (.of_below bb)).sl (by rw [HG1.out]; decide)⟩)
    have HSL := Lib.hid (one_stmt (x := ⟨yk, ykey, yval⟩) (Blk.new w6 41 #[.int .i64 yk, .string ykey, .string yval]))
    have M7 := Lib.hid (M6.out.keep bb)
    have Y7 := Lib.hid (Y6.out.keep bb)
    clear yb o1 o2 bb M6 Y6
    go_wp2_with fail
    refine (HSD.out _ _ _ _ M7.out.bel HWL.out HSL.out).mono ?_
    rintro e w8 ⟨r', s', cs', rfl, o1, o2, b8⟩
    obtain ⟨A3, k3, rfl⟩ := o1.form
    obtain ⟨A4, k4, rfl⟩ := own_slice o2.own
    unfold anV
    have bb := boxed2 w8 (.cells #[.slice A3 V2.rows.length k3, .slice A4 V2.ses.length k4] 39) (.cells #[.int .i64 aK, .string aT, .int .i64 aS] 46)
    have M9 := Lib.hid ((M7.out.keep b8).keep bb)
    have Y9 := Lib.hid ((Y7.out.keep b8).keep bb)
    have P9 := Lib.hid ((Blk.new w8 39 #[.slice A3 V2.rows.length k3, .slice A4 V2.ses.length k4]).alloc (.cells #[.int .i64 aK, .string aT, .int .i64 aS] 46))
    have Q9 := Lib.hid (Blk.new1 w8 (.cells #[.slice A3 V2.rows.length k3, .slice A4 V2.ses.length k4] 39) 46 #[.int .i64 aK, .string aT, .int .i64 aS])
    have hle : W0.heap.size ≤ _ := M7.out.bel.size
    have O9 := Lib.hid (And.intro ((o1.base hle).keeps (.of_below bb)) (osl_keeps (o2.base hle) (.of_below bb) (.of_below bb)))
    clear o1 o2 b8 bb hle y0 y1 x0 x1 x2 HWL HSL M7 Y7
    obtain ⟨z13, hz13⟩ : ∃ z, w8.heap.size = z := ⟨_, rfl⟩
    rw [hz13] at P9 Q9
    go_upto_region 12 with fail
    generalize (World.alloc _ _).alloc _ = w9 at M9 Y9 P9 Q9 O9 ⊢
    clear hz13
    have q0 := Q9.out.cell_ 0 _ rfl
    have q1 := Q9.out.cell_ 1 _ rfl
    have q2 := Q9.out.cell_ 2 _ rfl
    go_wp2_with fail
    refine (tell_fit ⟨aK, aT, aS⟩ w9 HFT.out).mono ?_
    rintro e w10 ⟨rfl, b10⟩
    have M10 := Lib.hid (M9.out.keep b10)
    have Y10 := Lib.hid (Y9.out.keep b10)
    have P10 := Lib.hid (P9.out.keep b10)
    have O10 := Lib.hid (And.intro (O9.out.1.keeps (.of_below b10)) (osl_keeps O9.out.2 (.of_below b10) (.of_below b10)))
    clear b10 q0 q1 q2 M9 Y9 P9 Q9 O9
    obtain ⟨t, ht⟩ : ∃ t, tellA ⟨aK, aT, aS⟩ = t := ⟨_, rfl⟩
    rw [ht] at HSN ⊢
    obtain ⟨r0, s0, yb, _⟩ := M10.out.box.box
    have y0 := yb.cell_ 0 _ rfl
    have y1 := yb.cell_ 1 _ rfl
    have fy := yb.frozen
    have p0 := P10.out.cell_ 0 _ rfl
    have p1 := P10.out.cell_ 1 _ rfl
    have neq := yb.ne_ Y10.out (by decide)
    go_upto_region 16 with fail
    have M11 := Lib.hid (M10.out.turn O10.out.1 O10.out.2)
    have Y11 := Lib.hid ((Y10.out.far (p := ⟨q, 0, none⟩) neq.symm (.slice A3 V2.rows.length k3)).far (p := ⟨q, 1, none⟩) neq.symm (.slice A4 V2.ses.length k4))
    clear y0 y1 fy p0 p1 yb neq M10 Y10 P10 O10
    generalize World.setCell _ _ _ = w11 at M11 Y11 ⊢
    have RD := Lib.hid (Reads.new_ w11 9 #[.string t] (n := 1) (size := 1) rfl)
    have bb := boxed w11 (.cells #[.string t] 9)
    have M12 := Lib.hid (M11.out.keep bb)
    have Y12 := Lib.hid (Y11.out.keep bb)
    clear bb M11 Y11
    go_wp2_with (at_builtin; refine wpList_append_any _ rfl (.tmp 63) (.tmp 65) 25 rfl W0.heap.size 9 i0 _ 1 16 Tryz.underlying25 hi0 hz0 hz1 hz2 rfl (by decide) _ ts.length (ts.map .string) rfl M12.out.want (w11.heap.size + 1) (some ⟨w11.heap.size, 0, none⟩) 1 1 [.string t] rfl RD.out (one_str t) (by have := HLN.out; unfold maxLen; omega) (by have := HLN.out; omega) M12.out.bel.size ?_; intro v' w13 hown hgr hat)
    have M13 := Lib.hid (M12.out.more t hgr hown)
    have Y13 := Lib.hid (Y12.out.grown hgr fun e => own_blk_ne M12.out.want Y12.out (by decide) e.symm)
    clear hown hgr hat RD M12 Y12
    go_upto_region 17 with fail
    refine region_segs [7] (by kernel_rfl) ?_
    have M14 := Lib.hid (M13.out.keep (Below.refl _ _).drew)
    have Y14 := Lib.hid (Y13.out.keep (Below.refl _ _).drew)
    generalize w13.drew = w14 at M14 Y14 ⊢
    have x0 := Y14.out.cell_ 0 _ rfl
    have x1 := Y14.out.cell_ 1 _ rfl
    have x2 := Y14.out.cell_ 2 _ rfl
    refine anyB_seg [0, 1, 3] 6 rfl (by kernel_rfl) (by kernel_rfl) (by kernel_rfl) (fun _ _ d _ _ h => by cases d <;> exact h) ?_
    simp only [pickOps, List.getElem?_toArray, List.getElem?_cons_zero, List.getElem?_cons_succ]
    go_wp2_with fail
    refine ⟨rfl, by rfl, ?_⟩
    clear x0 x1 x2 M13 Y13
    refine anyB_one (i := 2) (by kernel_rfl) rfl (fun K hK => ?_)
    go_simp
    refine (picked_any _ _ _ HMW.out (by decide) (by decide)).mono ?_
    rintro e w15 ⟨rfl, rfl⟩
    refine hK.out _ _ (fun _ => (Below.refl _ _)) ?_
    clear hK K
    rw [HC.out]
    refine anyB_one (i := 4) (by kernel_rfl) rfl (fun K hK => ?_)
    go_simp
    refine (HMG.out w14 (HT.out.below M14.out.bel)).mono ?_
    rintro e w16 ⟨rfl, b⟩
    refine hK.out _ _ (fun _ => b) ?_
    clear hK K
    have M16 := Lib.hid (M14.out.keep b)
    clear b M14 Y14
    obtain ⟨mq, hmq⟩ : ∃ mq, msgQ ⟨yk, ykey, yval⟩ = mq := ⟨_, rfl⟩
    rw [hmq] at HMQ ⊢
    refine anyB_seg [5] 3 rfl (by kernel_rfl) (by kernel_rfl) (by kernel_rfl) (fun _ _ d _ _ h => by cases d <;> exact h) ?_
    simp only [pickOps, List.getElem?_toArray, List.getElem?_cons_zero, List.getElem?_cons_succ]
    go_wp2_with fail
    refine ⟨rfl, by rfl, ?_⟩
    have RD := Lib.hid (Reads.new_ w16 54 #[.int .i64 1, .int .i64 (c : Nat), .string mq] (n := 1) (size := 3) rfl)
    have M17 := Lib.hid (M16.out.keep (boxed w16 (.cells #[.int .i64 1, .int .i64 (c : Nat), .string mq] 54)))
    refine anyB_one (i := 6) (by kernel_rfl) rfl (fun K hK => ?_)
    go_simp
    refine hK.out _ _ (fun _ => (boxed _ _)) ?_
    clear hK K
    refine anyB_one (i := 7) (by kernel_rfl) rfl (fun K hK => ?_)
    rw [if_pos (by rfl)]
    refine wp_append_any _ _ _ _ rfl W0.heap.size 54 j0 _ 3 32 Tryz.underlying24 hj0 jz0 jz1 jz2 rfl (by decide) _ AC.length (acV AC) rfl M17.out.acts (w16.heap.size + 1) (some ⟨w16.heap.size, 0, none⟩) 1 1 [.int .i64 1, .int .i64 (c : Nat), .string mq] rfl RD.out (by intro u hu; simp only [List.mem_cons, List.not_mem_nil, or_false] at hu; rcases hu with rfl | rfl | rfl <;> rfl) (by have := HLA.out; unfold maxLen; omega) (by have := HLA.out; omega) M17.out.bel.size ?_
    intro v'' w18 hown hgr hat
    refine hK.out _ _ (fun h => absurd (by decide) h) ?_
    clear hK K
    have M18 := Lib.hid (M17.out.act ⟨1, (c : Int), mq⟩ hgr hown)
    clear hown hgr hat RD M16 M17
    refine anyB_seg [8] 0 rfl (by kernel_rfl) (by kernel_rfl) (by kernel_rfl) (fun _ _ d _ _ h => by cases d <;> exact h) ?_
    simp only [pickOps, List.getElem?_toArray, List.getElem?_cons_zero, List.getElem?_cons_succ]
    go_wp2_with fail
    refine ⟨rfl, by rfl, ?_⟩
    refine anyB_done (by kernel_rfl) ?_ _
    go_wp2_with fail
    go_roundw
    case rel =>
     refine ⟨k + 1, by omega, by omega, by go_num, ?_⟩
     rw [HSN.out, HMP.out, HMQ.out]
     exact M18.out
    case measure => simp [intOf]; omega
   ·have hk2 : k = N ∨ k = 40 := by omega
    have h40 : (l.take k).length = k := by rw [List.length_take, HN.out]; omega
    obtain ⟨hgd, hg1⟩ := alx_good (l.take k)
    obtain ⟨q1, q2, q3⟩ := out_alone mode (by rcases HMD.out with h | h <;> rw [h] <;> decide) n hn1 (by omega) hc6 (l.take k)
    have hsz := alx_sz (l.take k)
    have hln := alx_len (l.take k)
    rw [h40] at q3 hln
    obtain ⟨P, hP⟩ : ∃ P, alx (l.take k) = P := ⟨_, rfl⟩
    rw [hP] at hM q1 q2 hsz hgd hg1 hln
    obtain ⟨V, ts⟩ := P
    simp only at hM q1 q2 hsz hgd hg1 hln
    have hla : ((l.take k).map (acQ c)).length = k := by rw [List.length_map]; exact h40
    have hok : ∀ a ∈ (l.take k).map (acQ c), AcOk a := fun a ha => by
     obtain ⟨x, _, rfl⟩ := List.mem_map.1 ha
     exact acQ_ok hc6 x
    have h6 := out_six mode n ((l.take k).map (acQ c))
    obtain ⟨AC, hAC⟩ : ∃ AC, (l.take k).map (acQ c) = AC := ⟨_, rfl⟩
    rw [hAC] at hM q1 q2 q3 hla hok h6
    have hset : setupE mode n = 0 := by unfold setupE; rcases HMD.out with h | h <;> (rw [h, if_neg (by decide), if_neg (by omega)])
    have HRUN := Lib.hid (fun (u : World) (va : Value) (hb : Below W0.heap.size W0 u) (ha : AcL u u.heap.size va AC) => run_any u mode n va AC hset hn1 hn4 ha (by omega) hok (HT.out.below hb))
    obtain ⟨o, ho⟩ : ∃ o, outM mode n AC = o := ⟨_, rfl⟩
    rw [ho] at HRUN q1 q2 q3 h6
    have HQ1 := Lib.hid q1
    have HQ2 := Lib.hid q2
    have HQ3 := Lib.hid q3
    have HSZ := Lib.hid hsz
    have HLN := Lib.hid hln
    have H6 := Lib.hid h6
    have HG1 := Lib.hid hg1
    have HM := Lib.hid hM
    have HAL := Lib.hid (own_acl hM.acts)
    obtain ⟨Aa, ca, rfl⟩ := own_slice hM.acts
    obtain ⟨Aw, cw, rfl⟩ := own_slice hM.want
    have g1 : (k : Int) < (N : Int) ∨ (N : Int) ≤ (k : Int) := by omega
    clear q1 q2 q3 hsz hln h6 hg1 hgd hM hla hok hAC hset ho hP h40 hlt M0
    rcases g1 with g1 | g1
    ·have g3 : (40 : Int) ≤ (k : Int) := by omega
     have s0 := HM.out.set.cell_ 0 _ rfl
     have s1 := HM.out.set.cell_ 1 _ rfl
     go_wp2_with fail
     refine (HRUN.out _ _ HM.out.bel HAL.out).mono ?_
     rintro e w5 ⟨vs, vd, vr, rfl, ho, b5⟩
     have X := Lib.hid (boxO_new ho b5 HM.out.bel.size)
     obtain ⟨A1, c1, A2, c2, A3, c3, rfl, rfl, rfl⟩ := outR_form ho
     rw [H6.out] at X ⊢
     have M6 := Lib.hid ((HM.out.keep b5).keep (boxed w5 (.cells #[.slice A1 6 c1, .slice A2 o.deeds.length c2, .slice A3 o.rows.length c3] 29)))
     obtain ⟨z, hz⟩ : ∃ z, w5.heap.size = z := ⟨_, rfl⟩
     rw [hz] at X
     clear ho b5 s0 s1 HM HAL HRUN
     go_upto_region 19 with fail
     generalize World.alloc _ _ = w6 at X M6 ⊢
     clear hz
     have x0 := X.out.blk.cell_ 0 _ rfl
     go_upto_region 21 with fail
     clear x0
     refine region_segs [] (by kernel_rfl) ?_
     have X7 := Lib.hid (X.out.keep (Below.refl _ _).drew)
     have M7 := Lib.hid (M6.out.keep (Below.refl _ _).drew)
     generalize w6.drew = w7 at X7 M7 ⊢
     clear X M6
     have x0 := X7.out.blk.cell_ 0 _ rfl
     obtain ⟨-, h6c, ad, rfl, xs⟩ := sent_at X7.out.out H6.out hc6
     rw [HQ1.out] at xs
     refine anyB_seg [0, 1, 2] 9 rfl (by kernel_rfl) (by kernel_rfl) (by kernel_rfl) (fun _ _ d _ _ h => by cases d <;> exact h) ?_
     simp only [pickOps, List.getElem?_toArray, List.getElem?_cons_zero, List.getElem?_cons_succ]
     go_wp2_with fail
     refine ⟨rfl, by rfl, ?_⟩
     refine anyB_one (i := 3) (by kernel_rfl) rfl (fun K hK => ?_)
     go_simp
     refine (picked_any _ _ _ HMW.out (by decide) (by decide)).mono ?_
     rintro e w8 ⟨rfl, rfl⟩
     refine hK.out _ _ (fun _ => (Below.refl _ _)) ?_
     clear hK K
     rw [HC.out]
     have gc1 : (c : Int) < 6 := by omega
     have gc2 : (0 : Int) ≤ (c : Int) := by omega
     refine anyB_seg [4, 5] 6 rfl (by kernel_rfl) (by kernel_rfl) (by kernel_rfl) (fun _ _ d _ _ h => by cases d <;> exact h) ?_
     simp only [pickOps, List.getElem?_toArray, List.getElem?_cons_zero, List.getElem?_cons_succ]
     go_wp2_with fail
     refine ⟨rfl, by rfl, ?_⟩
     clear x0 xs
     refine anyB_one (i := 6) (by kernel_rfl) rfl (fun K hK => ?_)
     go_simp
     refine (answers_any w7 ts HSZ.out (by have := HLN.out; omega)).mono ?_
     rintro e w9 ⟨va, rfl, oa, b9⟩
     refine hK.out _ _ (fun _ => b9) ?_
     clear hK K
     have X9 := Lib.hid (X7.out.keep b9)
     have M9 := Lib.hid (M7.out.keep b9)
     have OA := Lib.hid (OwnO.of_own oa)
     obtain ⟨Ag, cg, rfl⟩ := own_slice oa
     clear oa b9 X7 M7
     refine anyB_seg [7, 8, 9, 10, 11] 0 rfl (by kernel_rfl) (by kernel_rfl) (by kernel_rfl) (fun _ _ d _ _ h => by cases d <;> exact h) ?_
     simp only [pickOps, List.getElem?_toArray, List.getElem?_cons_zero, List.getElem?_cons_succ]
     go_wp2_with fail
     refine ⟨rfl, by rfl, ?_⟩
     refine anyB_done (by kernel_rfl) ?_ _
     go_wp2_with fail
     refine (strs_same w9 _ W0.heap.size ts.length _ _ ts rfl OA.out (OwnO.of_own M9.out.want)).mono ?_
     rintro e w10 ⟨rfl, b10⟩
     have X10 := Lib.hid (X9.out.keep b10)
     have M10 := Lib.hid (M9.out.keep b10)
     clear b10 X9 M9 OA
     obtain ⟨r0, s0, yb, o1, cs0, o2⟩ := M10.out.box.box
     obtain ⟨Ar, cr, rfl⟩ := o1.form
     have y0 := yb.cell_ 0 _ rfl
     have x2 := X10.out.blk.cell_ 2 _ rfl
     have PR := Lib.hid (And.intro X10.out.out.rows.pl (by have := o1.pl; rw [← HQ2.out] at this; exact this))
     rw [← HQ2.out] at y0
     clear yb o1 o2
     go_wp2_with fail
     refine (equal_same w10 _ _ o.rows PR.out.1 PR.out.2).mono ?_
     rintro e w11 ⟨rfl, b11⟩
     have B11 := Lib.hid (below_step M10.out.bel (Nat.le_refl _) b11)
     have x1 := (X10.out.keep b11).blk.cell_ 1 _ rfl
     have hd := HQ3.out
     have ht := HLN.out
     clear b11 y0 x2 PR X10 M10
     go_wp2_with fail
     go_ret
     exact ⟨by simp, B11.out⟩
    ·skip
     have s0 := HM.out.set.cell_ 0 _ rfl
     have s1 := HM.out.set.cell_ 1 _ rfl
     go_wp2_with fail
     refine (HRUN.out _ _ HM.out.bel HAL.out).mono ?_
     rintro e w5 ⟨vs, vd, vr, rfl, ho, b5⟩
     have X := Lib.hid (boxO_new ho b5 HM.out.bel.size)
     obtain ⟨A1, c1, A2, c2, A3, c3, rfl, rfl, rfl⟩ := outR_form ho
     rw [H6.out] at X ⊢
     have M6 := Lib.hid ((HM.out.keep b5).keep (boxed w5 (.cells #[.slice A1 6 c1, .slice A2 o.deeds.length c2, .slice A3 o.rows.length c3] 29)))
     obtain ⟨z, hz⟩ : ∃ z, w5.heap.size = z := ⟨_, rfl⟩
     rw [hz] at X
     clear ho b5 s0 s1 HM HAL HRUN
     go_upto_region 19 with fail
     generalize World.alloc _ _ = w6 at X M6 ⊢
     clear hz
     have x0 := X.out.blk.cell_ 0 _ rfl
     go_upto_region 21 with fail
     clear x0
     refine region_segs [] (by kernel_rfl) ?_
     have X7 := Lib.hid (X.out.keep (Below.refl _ _).drew)
     have M7 := Lib.hid (M6.out.keep (Below.refl _ _).drew)
     generalize w6.drew = w7 at X7 M7 ⊢
     clear X M6
     have x0 := X7.out.blk.cell_ 0 _ rfl
     obtain ⟨-, h6c, ad, rfl, xs⟩ := sent_at X7.out.out H6.out hc6
     rw [HQ1.out] at xs
     refine anyB_seg [0, 1, 2] 9 rfl (by kernel_rfl) (by kernel_rfl) (by kernel_rfl) (fun _ _ d _ _ h => by cases d <;> exact h) ?_
     simp only [pickOps, List.getElem?_toArray, List.getElem?_cons_zero, List.getElem?_cons_succ]
     go_wp2_with fail
     refine ⟨rfl, by rfl, ?_⟩
     refine anyB_one (i := 3) (by kernel_rfl) rfl (fun K hK => ?_)
     go_simp
     refine (picked_any _ _ _ HMW.out (by decide) (by decide)).mono ?_
     rintro e w8 ⟨rfl, rfl⟩
     refine hK.out _ _ (fun _ => (Below.refl _ _)) ?_
     clear hK K
     rw [HC.out]
     have gc1 : (c : Int) < 6 := by omega
     have gc2 : (0 : Int) ≤ (c : Int) := by omega
     refine anyB_seg [4, 5] 6 rfl (by kernel_rfl) (by kernel_rfl) (by kernel_rfl) (fun _ _ d _ _ h => by cases d <;> exact h) ?_
     simp only [pickOps, List.getElem?_toArray, List.getElem?_cons_zero, List.getElem?_cons_succ]
     go_wp2_with fail
     refine ⟨rfl, by rfl, ?_⟩
     clear x0 xs
     refine anyB_one (i := 6) (by kernel_rfl) rfl (fun K hK => ?_)
     go_simp
     refine (answers_any w7 ts HSZ.out (by have := HLN.out; omega)).mono ?_
     rintro e w9 ⟨va, rfl, oa, b9⟩
     refine hK.out _ _ (fun _ => b9) ?_
     clear hK K
     have X9 := Lib.hid (X7.out.keep b9)
     have M9 := Lib.hid (M7.out.keep b9)
     have OA := Lib.hid (OwnO.of_own oa)
     obtain ⟨Ag, cg, rfl⟩ := own_slice oa
     clear oa b9 X7 M7
     refine anyB_seg [7, 8, 9, 10, 11] 0 rfl (by kernel_rfl) (by kernel_rfl) (by kernel_rfl) (fun _ _ d _ _ h => by cases d <;> exact h) ?_
     simp only [pickOps, List.getElem?_toArray, List.getElem?_cons_zero, List.getElem?_cons_succ]
     go_wp2_with fail
     refine ⟨rfl, by rfl, ?_⟩
     refine anyB_done (by kernel_rfl) ?_ _
     go_wp2_with fail
     refine (strs_same w9 _ W0.heap.size ts.length _ _ ts rfl OA.out (OwnO.of_own M9.out.want)).mono ?_
     rintro e w10 ⟨rfl, b10⟩
     have X10 := Lib.hid (X9.out.keep b10)
     have M10 := Lib.hid (M9.out.keep b10)
     clear b10 X9 M9 OA
     obtain ⟨r0, s0, yb, o1, cs0, o2⟩ := M10.out.box.box
     obtain ⟨Ar, cr, rfl⟩ := o1.form
     have y0 := yb.cell_ 0 _ rfl
     have x2 := X10.out.blk.cell_ 2 _ rfl
     have PR := Lib.hid (And.intro X10.out.out.rows.pl (by have := o1.pl; rw [← HQ2.out] at this; exact this))
     rw [← HQ2.out] at y0
     clear yb o1 o2
     go_wp2_with fail
     refine (equal_same w10 _ _ o.rows PR.out.1 PR.out.2).mono ?_
     rintro e w11 ⟨rfl, b11⟩
     have B11 := Lib.hid (below_step M10.out.bel (Nat.le_refl _) b11)
     have x1 := (X10.out.keep b11).blk.cell_ 1 _ rfl
     have hd := HQ3.out
     have ht := HLN.out
     clear b11 y0 x2 PR X10 M10
     go_wp2_with fail
     go_ret
     exact ⟨by simp, B11.out⟩
end Go.Proofs.YtjbnfigpflambacGreatDoor
