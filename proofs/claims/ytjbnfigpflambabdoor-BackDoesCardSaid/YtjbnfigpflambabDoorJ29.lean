/- The reference's DidOf where nothing is amiss. -/
import Derived.Test.YtjbnfigpflambabDoorJ28
/- The reference's DidOf where nothing is amiss. -/
namespace Go.Proofs.YtjbnfigpflambabDoor
open Go.ChangeShapes Go.WideShapes Go.ChangeAt Go.RowKit
set_option maxHeartbeats 16000000 in
set_option maxRecDepth 100000 in
theorem didof_good (w : World) (r s : Value) (W : Wo) (i : Nat) (x : St) (hT : Tabs w) (h : WL w w.heap.size r s W) (hi : (Lit.int .i64 (i : Int)).wf = true) (hk : x.key.size ≤ maxLen) (hv : x.val.size ≤ maxLen) (hE : doE W (i : Int) x = 0) :
  Calls Tryd.prog 24 #[.agg #[r, s], .int .i64 (i : Nat), .agg #[.int .i64 x.k, .string x.key, .string x.val]] w (DoP w W (i : Int) x) := by
 obtain ⟨A, c, er⟩ := h.rows.form
 obtain ⟨A', c', es, _, hn', _⟩ := h.ses
 subst er es
 have D0 := Lib.hid (DoAt.start w (.slice A W.rows.length c) (.slice A' W.ses.length c') x)
 have HW := Lib.hid h
 have HT := Lib.hid hT
 have HI := wf_i64 hi
 obtain ⟨n, hN⟩ : ∃ n, W.ses.length = n := ⟨_, rfl⟩
 rw [hN] at D0 HW hn' ⊢
 have HN := Lib.hid hN
 obtain ⟨kx, key, val⟩ := x
 have HM := Lib.hid (fun (u : World) (hb : Below w.heap.size w u) => worldMay_any u (.slice A W.rows.length c) (.slice A' n c') W (HT.out.below hb) ((HW.out.below hb).more hb.size))
 have HF := Lib.hid (fun (u : World) (hb : Below w.heap.size w u) => fault_all ⟨kx, key, val⟩ u (HT.out.below hb) hk hv)
 obtain ⟨hg, hin, hcz⟩ : goodW W = true ∧ i < n ∧ checkE ⟨kx, key, val⟩ = 0 := by
  unfold doE at hE
  split at hE
  ·rename_i hg
   split at hE
   ·rename_i h2; exact ⟨hg, by rw [HN.out] at h2; omega, hE⟩
   ·cases hE
  ·cases hE
 have h8 := ((good_iff W).1 hg).few
 rw [HN.out] at h8
 have HG := Lib.hid hg
 have HGD := Lib.hid ((good_iff W).1 hg)
 have XZ := Lib.hid hcz
 have HKK := Lib.hid (stK hcz)
 have HKV := Lib.hid (And.intro hk hv)
 have HE := Lib.hid hE
 have hRR := doR_good hE
 obtain ⟨R, hRd⟩ : ∃ R, doW W i ⟨kx, key, val⟩ = R := ⟨_, rfl⟩
 rw [hRd] at hRR
 obtain ⟨V, ak, aT, aS⟩ := R
 have HRD := Lib.hid hRd
 have hR := Lib.hid hRR
 clear hT hk hv hE h hN hi hg hcz hRd hRR
 go_enter Tryd.func24, Tryd.ntmps24
 go_upto_region 1 with fail
 generalize (((World.alloc _ _).alloc _).alloc _).alloc _ = x0 at D0 ⊢
 have y0 := D0.out.bx.cell_ 0 _ rfl
 have y1 := D0.out.bx.cell_ 1 _ rfl
 go_wp2_with fail
 refine (HM.out _ D0.out.bel).mono ?_
 rintro e x1 ⟨rfl, b1⟩
 have D1 := Lib.hid (D0.out.keep b1)
 clear b1 D0 y0 y1
 rw [HG.out]
 have y1 := D1.out.bx.cell_ 1 _ rfl
 have w1 : wrap64 ((n : Int) - 1) = (n : Int) - 1 := by simp only [wrap64]; omega
 go_wp2_with fail
 refine (in_yes (i : Int) 0 ((n : Int) - 1) _ (by omega) (by omega)).mono ?_
 rintro e x2 ⟨rfl, rfl⟩
 clear y1
 have a0 := D1.out.ax.cell_ 0 _ rfl
 have a1 := D1.out.ax.cell_ 1 _ rfl
 have a2 := D1.out.ax.cell_ 2 _ rfl
 go_wp2_with fail
 refine (HF.out _ D1.out.bel).mono ?_
 rintro e x2 ⟨rfl, b2⟩
 have D2 := Lib.hid (D1.out.keep b2)
 clear b2 a0 a1 a2 D1
 rw [XZ.out]
 go_upto_region 8 with fail
 have y0 := D2.out.bx.cell_ 0 _ rfl
 have y1 := D2.out.bx.cell_ 1 _ rfl
 have a0 := D2.out.ax.cell_ 0 _ rfl
 have a1 := D2.out.ax.cell_ 1 _ rfl
 have a2 := D2.out.ax.cell_ 2 _ rfl
 go_cut [10, 11] (fun p p2 wc => ∃ z12 z13 r' s', p = .pointer (some ⟨z12, 0, none⟩) ∧ p2 = .pointer (some ⟨z13, 0, none⟩) ∧ OfN w wc w.heap.size z12 z13 r' s' V ⟨ak, aT, aS⟩)
 case first =>
  refine region_segsO [] (by kernel_rfl) ?_
  refine anyO_seg true [0, 2, 3] 9 rfl (by kernel_rfl) (by kernel_rfl) (by kernel_rfl) (fun _ _ d _ _ h => by cases d <;> exact h) (fun _ => rfl) ?_
  simp only [pickOps, List.getElem?_toArray, List.getElem?_cons_zero, List.getElem?_cons_succ]
  go_wp2_with fail
  refine ⟨rfl, by rfl, ?_⟩
  have DX := Lib.hid (D2.out.keep (Below.refl _ _).drew)
  clear y0 y1 a0 a1 a2 D2
  generalize hB0 : x2.heap.size = B0
  have hB1 : B0 = x2.drew.heap.size := hB0.symm
  clear hB0
  generalize x2.drew = x0 at DX hB1 ⊢
  have HBZ := Lib.hid (Nat.le_of_eq hB1)
  clear hB1
  have S0 := Lib.hid (DoS.start w.heap.size x0)
  have HBX := Lib.hid DX.out.bel
  have HX := Lib.hid (fun (u : World) (hb : Below x0.heap.size x0 u) => (HW.out.below (below_step HBX.out (Nat.le_refl _) hb)).more (below_step HBX.out (Nat.le_refl _) hb).size)
  refine anyO_three (i := 1) (j := 8) (k := 9) (by kernel_rfl) rfl rfl rfl (fun K hK => ?_) (fun K hK => ?_) (fun K hK => ?_)
  ·go_simp
   refine (refcopy_any x0 _ _ W (HX.out _ S0.out.hb)).mono ?_
   rintro e x1 ⟨r2, s2, cs2, rfl, o1, o2, b⟩
   refine hK.out _ _ (fun _ => (b.mono (Nat.le_trans HBZ.out S0.out.hb.size))) ?_
   clear hK K
   obtain ⟨A1, k1, rfl⟩ := o1.form
   obtain ⟨g2, cap2, rfl⟩ := o2.form (by rw [HN.out]; omega)
   rw (occs := .pos [1]) [HN.out] at o2
   have HGE := Lib.hid (Nat.le_trans S0.out.hb.size o2.lt.1)
   have S1 := Lib.hid (S0.out.did (Nat.le_trans HBX.out.size S0.out.hb.size) o1 o2 b)
   rw [HN.out]
   clear b S0 o1 o2
   refine anyO_three (i := 4) (j := 8) (k := 9) (by kernel_rfl) rfl rfl rfl (fun K hK => ?_) (fun K hK => ?_) (fun K hK => ?_)
   ·go_simp
    obtain ⟨o1, cs3, o2⟩ := S1.out.nx _ _ _ rfl
    refine (refDid_any x1 w.heap.size _ g2 cap2 n W cs3 i ⟨kx, key, val⟩ (Nat.le_trans HBX.out.size S1.out.hb.size) HN.out o1 o2 hin HGD.out (HT.out.below (HBX.out.trans (S1.out.hb.mono HBX.out.size))) HKK.out.1 HKK.out.2 HKV.out.1 HKV.out.2).mono ?_
    rintro e x2 ⟨r3, cs4, rfl, o3, o4, on⟩
    refine hK.out _ _ (fun _ => (on.bel (Below.refl _ _) (Nat.le_trans HBZ.out S1.out.hb.size) (Nat.le_trans HBZ.out HGE.out) (Nat.le_trans HBZ.out HGE.out))) ?_
    clear hK K
    rw [HRD.out] at o3 o4 ⊢
    obtain ⟨A3, k3, rfl⟩ := o3.form
    have S2 := Lib.hid (S1.out.did2 on HGE.out o3 o4)
    clear S1 o1 o2 o3 o4 on
    unfold anV
    refine anyO_seg false [5, 6, 7] 4 rfl (by kernel_rfl) (by kernel_rfl) (by kernel_rfl) (fun _ _ d _ _ h => by cases d <;> exact h) (fun h => by cases h) ?_
    simp only [pickOps, List.getElem?_toArray, List.getElem?_cons_zero, List.getElem?_cons_succ]
    go_wp2_with fail
    refine ⟨rfl, by rfl, ?_⟩
    refine anyO_two (i := 8) (j := 9) (by kernel_rfl) rfl rfl (fun K hK => ?_) (fun K hK => ?_)
    ·go_simp
     refine hK.out _ _ (fun _ => ((boxed _ _).mono (Nat.le_trans HBZ.out S2.out.hb.size))) ?_
     clear hK K
     have S3 := Lib.hid S2.out.f12
     obtain ⟨z12, hz⟩ : ∃ z, x2.heap.size = z := ⟨_, rfl⟩
     rw [hz] at S3 ⊢
     generalize World.alloc _ _ = x3 at S3 ⊢
     clear S2 hz
     refine anyO_one (i := 9) (by kernel_rfl) rfl (fun K hK => ?_)
     go_simp
     refine hK.out _ _ (fun _ => ((boxed _ _).mono (Nat.le_trans HBZ.out S3.out.hb.size))) ?_
     clear hK K
     have S4 := Lib.hid S3.out.f13
     obtain ⟨z13, hz⟩ : ∃ z, x3.heap.size = z := ⟨_, rfl⟩
     rw [hz] at S4 ⊢
     generalize World.alloc _ _ = x4 at S4 ⊢
     clear S3 hz
     obtain ⟨b12, l12⟩ := S4.out.b12 _ rfl
     obtain ⟨b13, l13⟩ := S4.out.b13 _ rfl
     have n12 : ¬ (z13 = z12) := b13.ne_ b12 (by decide)
     have f0 := b12.cell_ 0 _ rfl
     have f1 := b12.cell_ 1 _ rfl
     have f2 := b13.cell_ 0 _ rfl
     have f3 := b13.cell_ 1 _ rfl
     have f4 := b13.cell_ 2 _ rfl
     have ff := b12.frozen
     have fg := b13.frozen
     clear b12 b13
     refine anyO_one (i := 10) (by kernel_rfl) rfl (fun K hK => ?_)
     go_simp
     refine hK.out _ _ (fun _ => (((Below.refl _ _).setCell (p := ⟨z12, 0, none⟩) (Nat.le_trans HBZ.out l12) _).setCell (p := ⟨z12, 1, none⟩) (Nat.le_trans HBZ.out l12) _)) ?_
     clear hK K
     refine anyO_one (i := 11) (by kernel_rfl) rfl (fun K hK => ?_)
     go_simp
     have l13' := Nat.le_trans HBZ.out l13
     refine hK.out _ _ (fun _ => ((((Below.refl _ _).setCell (p := ⟨z13, 0, none⟩) l13' _).setCell (p := ⟨z13, 1, none⟩) l13' _).setCell (p := ⟨z13, 2, none⟩) l13' _)) ?_
     clear hK K
     refine anyO_done (by kernel_rfl) ?_ _
     have FN := Lib.hid (S4.out.fin (a := ⟨ak, aT, aS⟩) rfl)
     clear f0 f1 f2 f3 f4 ff fg n12 l12 l13 l13'
     generalize World.setCell _ _ _ = x9 at FN ⊢
     go_wp2_with fail
     go_meet
     exact ⟨z12, z13, _, _, rfl, rfl, OfN.mk (DX.out.keep FN.out.hb).bel (DX.out.keep FN.out.hb).rw_ (DX.out.keep FN.out.hb).ra FN.out.b12 FN.out.b13 FN.out.rows FN.out.ses (Nat.lt_of_lt_of_le DX.out.ra.lt FN.out.l12) (Nat.lt_of_lt_of_le DX.out.ra.lt FN.out.l13)⟩
    ·go_simp
     refine hK.out _ _ (fun _ => ((boxed _ _).mono (Nat.le_trans HBZ.out S2.out.hb.size))) ?_
     clear hK K
     have S3 := Lib.hid S2.out.f13
     obtain ⟨z13, hz⟩ : ∃ z, x2.heap.size = z := ⟨_, rfl⟩
     rw [hz] at S3 ⊢
     generalize World.alloc _ _ = x3 at S3 ⊢
     clear S2 hz
     refine anyO_one (i := 8) (by kernel_rfl) rfl (fun K hK => ?_)
     go_simp
     refine hK.out _ _ (fun _ => ((boxed _ _).mono (Nat.le_trans HBZ.out S3.out.hb.size))) ?_
     clear hK K
     have S4 := Lib.hid S3.out.f12
     obtain ⟨z12, hz⟩ : ∃ z, x3.heap.size = z := ⟨_, rfl⟩
     rw [hz] at S4 ⊢
     generalize World.alloc _ _ = x4 at S4 ⊢
     clear S3 hz
     obtain ⟨b12, l12⟩ := S4.out.b12 _ rfl
     obtain ⟨b13, l13⟩ := S4.out.b13 _ rfl
     have n12 : ¬ (z13 = z12) := b13.ne_ b12 (by decide)
     have f0 := b12.cell_ 0 _ rfl
     have f1 := b12.cell_ 1 _ rfl
     have f2 := b13.cell_ 0 _ rfl
     have f3 := b13.cell_ 1 _ rfl
     have f4 := b13.cell_ 2 _ rfl
     have ff := b12.frozen
     have fg := b13.frozen
     clear b12 b13
     refine anyO_one (i := 10) (by kernel_rfl) rfl (fun K hK => ?_)
     go_simp
     refine hK.out _ _ (fun _ => (((Below.refl _ _).setCell (p := ⟨z12, 0, none⟩) (Nat.le_trans HBZ.out l12) _).setCell (p := ⟨z12, 1, none⟩) (Nat.le_trans HBZ.out l12) _)) ?_
     clear hK K
     refine anyO_one (i := 11) (by kernel_rfl) rfl (fun K hK => ?_)
     go_simp
     have l13' := Nat.le_trans HBZ.out l13
     refine hK.out _ _ (fun _ => ((((Below.refl _ _).setCell (p := ⟨z13, 0, none⟩) l13' _).setCell (p := ⟨z13, 1, none⟩) l13' _).setCell (p := ⟨z13, 2, none⟩) l13' _)) ?_
     clear hK K
     refine anyO_done (by kernel_rfl) ?_ _
     have FN := Lib.hid (S4.out.fin (a := ⟨ak, aT, aS⟩) rfl)
     clear f0 f1 f2 f3 f4 ff fg n12 l12 l13 l13'
     generalize World.setCell _ _ _ = x9 at FN ⊢
     go_wp2_with fail
     go_meet
     exact ⟨z12, z13, _, _, rfl, rfl, OfN.mk (DX.out.keep FN.out.hb).bel (DX.out.keep FN.out.hb).rw_ (DX.out.keep FN.out.hb).ra FN.out.b12 FN.out.b13 FN.out.rows FN.out.ses (Nat.lt_of_lt_of_le DX.out.ra.lt FN.out.l12) (Nat.lt_of_lt_of_le DX.out.ra.lt FN.out.l13)⟩
   ·go_simp
    refine hK.out _ _ (fun _ => ((boxed _ _).mono (Nat.le_trans HBZ.out S1.out.hb.size))) ?_
    clear hK K
    have S2 := Lib.hid S1.out.f12
    obtain ⟨z12, hz⟩ : ∃ z, x1.heap.size = z := ⟨_, rfl⟩
    rw [hz] at S2 ⊢
    generalize World.alloc _ _ = x2 at S2 ⊢
    clear S1 hz
    refine anyO_two (i := 4) (j := 9) (by kernel_rfl) rfl rfl (fun K hK => ?_) (fun K hK => ?_)
    ·go_simp
     obtain ⟨o1, cs3, o2⟩ := S2.out.nx _ _ _ rfl
     refine (refDid_any x2 w.heap.size _ g2 cap2 n W cs3 i ⟨kx, key, val⟩ (Nat.le_trans HBX.out.size S2.out.hb.size) HN.out o1 o2 hin HGD.out (HT.out.below (HBX.out.trans (S2.out.hb.mono HBX.out.size))) HKK.out.1 HKK.out.2 HKV.out.1 HKV.out.2).mono ?_
     rintro e x3 ⟨r3, cs4, rfl, o3, o4, on⟩
     refine hK.out _ _ (fun _ => (on.bel (Below.refl _ _) (Nat.le_trans HBZ.out S2.out.hb.size) (Nat.le_trans HBZ.out HGE.out) (Nat.le_trans HBZ.out HGE.out))) ?_
     clear hK K
     rw [HRD.out] at o3 o4 ⊢
     obtain ⟨A3, k3, rfl⟩ := o3.form
     have S3 := Lib.hid (S2.out.did2 on HGE.out o3 o4)
     clear S2 o1 o2 o3 o4 on
     unfold anV
     refine anyO_seg false [5, 6, 7] 3 rfl (by kernel_rfl) (by kernel_rfl) (by kernel_rfl) (fun _ _ d _ _ h => by cases d <;> exact h) (fun h => by cases h) ?_
     simp only [pickOps, List.getElem?_toArray, List.getElem?_cons_zero, List.getElem?_cons_succ]
     go_wp2_with fail
     refine ⟨rfl, by rfl, ?_⟩
     refine anyO_one (i := 9) (by kernel_rfl) rfl (fun K hK => ?_)
     go_simp
     refine hK.out _ _ (fun _ => ((boxed _ _).mono (Nat.le_trans HBZ.out S3.out.hb.size))) ?_
     clear hK K
     have S4 := Lib.hid S3.out.f13
     obtain ⟨z13, hz⟩ : ∃ z, x3.heap.size = z := ⟨_, rfl⟩
     rw [hz] at S4 ⊢
     generalize World.alloc _ _ = x4 at S4 ⊢
     clear S3 hz
     obtain ⟨b12, l12⟩ := S4.out.b12 _ rfl
     obtain ⟨b13, l13⟩ := S4.out.b13 _ rfl
     have n12 : ¬ (z13 = z12) := b13.ne_ b12 (by decide)
     have f0 := b12.cell_ 0 _ rfl
     have f1 := b12.cell_ 1 _ rfl
     have f2 := b13.cell_ 0 _ rfl
     have f3 := b13.cell_ 1 _ rfl
     have f4 := b13.cell_ 2 _ rfl
     have ff := b12.frozen
     have fg := b13.frozen
     clear b12 b13
     refine anyO_one (i := 10) (by kernel_rfl) rfl (fun K hK => ?_)
     go_simp
     refine hK.out _ _ (fun _ => (((Below.refl _ _).setCell (p := ⟨z12, 0, none⟩) (Nat.le_trans HBZ.out l12) _).setCell (p := ⟨z12, 1, none⟩) (Nat.le_trans HBZ.out l12) _)) ?_
     clear hK K
     refine anyO_one (i := 11) (by kernel_rfl) rfl (fun K hK => ?_)
     go_simp
     have l13' := Nat.le_trans HBZ.out l13
     refine hK.out _ _ (fun _ => ((((Below.refl _ _).setCell (p := ⟨z13, 0, none⟩) l13' _).setCell (p := ⟨z13, 1, none⟩) l13' _).setCell (p := ⟨z13, 2, none⟩) l13' _)) ?_
     clear hK K
     refine anyO_done (by kernel_rfl) ?_ _
     have FN := Lib.hid (S4.out.fin (a := ⟨ak, aT, aS⟩) rfl)
     clear f0 f1 f2 f3 f4 ff fg n12 l12 l13 l13'
     generalize World.setCell _ _ _ = x9 at FN ⊢
     go_wp2_with fail
     go_meet
     exact ⟨z12, z13, _, _, rfl, rfl, OfN.mk (DX.out.keep FN.out.hb).bel (DX.out.keep FN.out.hb).rw_ (DX.out.keep FN.out.hb).ra FN.out.b12 FN.out.b13 FN.out.rows FN.out.ses (Nat.lt_of_lt_of_le DX.out.ra.lt FN.out.l12) (Nat.lt_of_lt_of_le DX.out.ra.lt FN.out.l13)⟩
    ·go_simp
     refine hK.out _ _ (fun _ => ((boxed _ _).mono (Nat.le_trans HBZ.out S2.out.hb.size))) ?_
     clear hK K
     have S3 := Lib.hid S2.out.f13
     obtain ⟨z13, hz⟩ : ∃ z, x2.heap.size = z := ⟨_, rfl⟩
     rw [hz] at S3 ⊢
     generalize World.alloc _ _ = x3 at S3 ⊢
     clear S2 hz
     refine anyO_one (i := 4) (by kernel_rfl) rfl (fun K hK => ?_)
     go_simp
     obtain ⟨o1, cs3, o2⟩ := S3.out.nx _ _ _ rfl
     refine (refDid_any x3 w.heap.size _ g2 cap2 n W cs3 i ⟨kx, key, val⟩ (Nat.le_trans HBX.out.size S3.out.hb.size) HN.out o1 o2 hin HGD.out (HT.out.below (HBX.out.trans (S3.out.hb.mono HBX.out.size))) HKK.out.1 HKK.out.2 HKV.out.1 HKV.out.2).mono ?_
     rintro e x4 ⟨r3, cs4, rfl, o3, o4, on⟩
     refine hK.out _ _ (fun _ => (on.bel (Below.refl _ _) (Nat.le_trans HBZ.out S3.out.hb.size) (Nat.le_trans HBZ.out HGE.out) (Nat.le_trans HBZ.out HGE.out))) ?_
     clear hK K
     rw [HRD.out] at o3 o4 ⊢
     obtain ⟨A3, k3, rfl⟩ := o3.form
     have S4 := Lib.hid (S3.out.did2 on HGE.out o3 o4)
     clear S3 o1 o2 o3 o4 on
     unfold anV
     refine anyO_seg false [5, 6, 7] 2 rfl (by kernel_rfl) (by kernel_rfl) (by kernel_rfl) (fun _ _ d _ _ h => by cases d <;> exact h) (fun h => by cases h) ?_
     simp only [pickOps, List.getElem?_toArray, List.getElem?_cons_zero, List.getElem?_cons_succ]
     go_wp2_with fail
     refine ⟨rfl, by rfl, ?_⟩
     obtain ⟨b12, l12⟩ := S4.out.b12 _ rfl
     obtain ⟨b13, l13⟩ := S4.out.b13 _ rfl
     have n12 : ¬ (z13 = z12) := b13.ne_ b12 (by decide)
     have f0 := b12.cell_ 0 _ rfl
     have f1 := b12.cell_ 1 _ rfl
     have f2 := b13.cell_ 0 _ rfl
     have f3 := b13.cell_ 1 _ rfl
     have f4 := b13.cell_ 2 _ rfl
     have ff := b12.frozen
     have fg := b13.frozen
     clear b12 b13
     refine anyO_one (i := 10) (by kernel_rfl) rfl (fun K hK => ?_)
     go_simp
     refine hK.out _ _ (fun _ => (((Below.refl _ _).setCell (p := ⟨z12, 0, none⟩) (Nat.le_trans HBZ.out l12) _).setCell (p := ⟨z12, 1, none⟩) (Nat.le_trans HBZ.out l12) _)) ?_
     clear hK K
     refine anyO_one (i := 11) (by kernel_rfl) rfl (fun K hK => ?_)
     go_simp
     have l13' := Nat.le_trans HBZ.out l13
     refine hK.out _ _ (fun _ => ((((Below.refl _ _).setCell (p := ⟨z13, 0, none⟩) l13' _).setCell (p := ⟨z13, 1, none⟩) l13' _).setCell (p := ⟨z13, 2, none⟩) l13' _)) ?_
     clear hK K
     refine anyO_done (by kernel_rfl) ?_ _
     have FN := Lib.hid (S4.out.fin (a := ⟨ak, aT, aS⟩) rfl)
     clear f0 f1 f2 f3 f4 ff fg n12 l12 l13 l13'
     generalize World.setCell _ _ _ = x9 at FN ⊢
     go_wp2_with fail
     go_meet
     exact ⟨z12, z13, _, _, rfl, rfl, OfN.mk (DX.out.keep FN.out.hb).bel (DX.out.keep FN.out.hb).rw_ (DX.out.keep FN.out.hb).ra FN.out.b12 FN.out.b13 FN.out.rows FN.out.ses (Nat.lt_of_lt_of_le DX.out.ra.lt FN.out.l12) (Nat.lt_of_lt_of_le DX.out.ra.lt FN.out.l13)⟩
   ·go_simp
    refine hK.out _ _ (fun _ => ((boxed _ _).mono (Nat.le_trans HBZ.out S1.out.hb.size))) ?_
    clear hK K
    have S2 := Lib.hid S1.out.f13
    obtain ⟨z13, hz⟩ : ∃ z, x1.heap.size = z := ⟨_, rfl⟩
    rw [hz] at S2 ⊢
    generalize World.alloc _ _ = x2 at S2 ⊢
    clear S1 hz
    refine anyO_two (i := 4) (j := 8) (by kernel_rfl) rfl rfl (fun K hK => ?_) (fun K hK => ?_)
    ·go_simp
     obtain ⟨o1, cs3, o2⟩ := S2.out.nx _ _ _ rfl
     refine (refDid_any x2 w.heap.size _ g2 cap2 n W cs3 i ⟨kx, key, val⟩ (Nat.le_trans HBX.out.size S2.out.hb.size) HN.out o1 o2 hin HGD.out (HT.out.below (HBX.out.trans (S2.out.hb.mono HBX.out.size))) HKK.out.1 HKK.out.2 HKV.out.1 HKV.out.2).mono ?_
     rintro e x3 ⟨r3, cs4, rfl, o3, o4, on⟩
     refine hK.out _ _ (fun _ => (on.bel (Below.refl _ _) (Nat.le_trans HBZ.out S2.out.hb.size) (Nat.le_trans HBZ.out HGE.out) (Nat.le_trans HBZ.out HGE.out))) ?_
     clear hK K
     rw [HRD.out] at o3 o4 ⊢
     obtain ⟨A3, k3, rfl⟩ := o3.form
     have S3 := Lib.hid (S2.out.did2 on HGE.out o3 o4)
     clear S2 o1 o2 o3 o4 on
     unfold anV
     refine anyO_seg false [5, 6, 7] 3 rfl (by kernel_rfl) (by kernel_rfl) (by kernel_rfl) (fun _ _ d _ _ h => by cases d <;> exact h) (fun h => by cases h) ?_
     simp only [pickOps, List.getElem?_toArray, List.getElem?_cons_zero, List.getElem?_cons_succ]
     go_wp2_with fail
     refine ⟨rfl, by rfl, ?_⟩
     refine anyO_one (i := 8) (by kernel_rfl) rfl (fun K hK => ?_)
     go_simp
     refine hK.out _ _ (fun _ => ((boxed _ _).mono (Nat.le_trans HBZ.out S3.out.hb.size))) ?_
     clear hK K
     have S4 := Lib.hid S3.out.f12
     obtain ⟨z12, hz⟩ : ∃ z, x3.heap.size = z := ⟨_, rfl⟩
     rw [hz] at S4 ⊢
     generalize World.alloc _ _ = x4 at S4 ⊢
     clear S3 hz
     obtain ⟨b12, l12⟩ := S4.out.b12 _ rfl
     obtain ⟨b13, l13⟩ := S4.out.b13 _ rfl
     have n12 : ¬ (z13 = z12) := b13.ne_ b12 (by decide)
     have f0 := b12.cell_ 0 _ rfl
     have f1 := b12.cell_ 1 _ rfl
     have f2 := b13.cell_ 0 _ rfl
     have f3 := b13.cell_ 1 _ rfl
     have f4 := b13.cell_ 2 _ rfl
     have ff := b12.frozen
     have fg := b13.frozen
     clear b12 b13
     refine anyO_one (i := 10) (by kernel_rfl) rfl (fun K hK => ?_)
     go_simp
     refine hK.out _ _ (fun _ => (((Below.refl _ _).setCell (p := ⟨z12, 0, none⟩) (Nat.le_trans HBZ.out l12) _).setCell (p := ⟨z12, 1, none⟩) (Nat.le_trans HBZ.out l12) _)) ?_
     clear hK K
     refine anyO_one (i := 11) (by kernel_rfl) rfl (fun K hK => ?_)
     go_simp
     have l13' := Nat.le_trans HBZ.out l13
     refine hK.out _ _ (fun _ => ((((Below.refl _ _).setCell (p := ⟨z13, 0, none⟩) l13' _).setCell (p := ⟨z13, 1, none⟩) l13' _).setCell (p := ⟨z13, 2, none⟩) l13' _)) ?_
     clear hK K
     refine anyO_done (by kernel_rfl) ?_ _
     have FN := Lib.hid (S4.out.fin (a := ⟨ak, aT, aS⟩) rfl)
     clear f0 f1 f2 f3 f4 ff fg n12 l12 l13 l13'
     generalize World.setCell _ _ _ = x9 at FN ⊢
     go_wp2_with fail
     go_meet
     exact ⟨z12, z13, _, _, rfl, rfl, OfN.mk (DX.out.keep FN.out.hb).bel (DX.out.keep FN.out.hb).rw_ (DX.out.keep FN.out.hb).ra FN.out.b12 FN.out.b13 FN.out.rows FN.out.ses (Nat.lt_of_lt_of_le DX.out.ra.lt FN.out.l12) (Nat.lt_of_lt_of_le DX.out.ra.lt FN.out.l13)⟩
    ·go_simp
     refine hK.out _ _ (fun _ => ((boxed _ _).mono (Nat.le_trans HBZ.out S2.out.hb.size))) ?_
     clear hK K
     have S3 := Lib.hid S2.out.f12
     obtain ⟨z12, hz⟩ : ∃ z, x2.heap.size = z := ⟨_, rfl⟩
     rw [hz] at S3 ⊢
     generalize World.alloc _ _ = x3 at S3 ⊢
     clear S2 hz
     refine anyO_one (i := 4) (by kernel_rfl) rfl (fun K hK => ?_)
     go_simp
     obtain ⟨o1, cs3, o2⟩ := S3.out.nx _ _ _ rfl
     refine (refDid_any x3 w.heap.size _ g2 cap2 n W cs3 i ⟨kx, key, val⟩ (Nat.le_trans HBX.out.size S3.out.hb.size) HN.out o1 o2 hin HGD.out (HT.out.below (HBX.out.trans (S3.out.hb.mono HBX.out.size))) HKK.out.1 HKK.out.2 HKV.out.1 HKV.out.2).mono ?_
     rintro e x4 ⟨r3, cs4, rfl, o3, o4, on⟩
     refine hK.out _ _ (fun _ => (on.bel (Below.refl _ _) (Nat.le_trans HBZ.out S3.out.hb.size) (Nat.le_trans HBZ.out HGE.out) (Nat.le_trans HBZ.out HGE.out))) ?_
     clear hK K
     rw [HRD.out] at o3 o4 ⊢
     obtain ⟨A3, k3, rfl⟩ := o3.form
     have S4 := Lib.hid (S3.out.did2 on HGE.out o3 o4)
     clear S3 o1 o2 o3 o4 on
     unfold anV
     refine anyO_seg false [5, 6, 7] 2 rfl (by kernel_rfl) (by kernel_rfl) (by kernel_rfl) (fun _ _ d _ _ h => by cases d <;> exact h) (fun h => by cases h) ?_
     simp only [pickOps, List.getElem?_toArray, List.getElem?_cons_zero, List.getElem?_cons_succ]
     go_wp2_with fail
     refine ⟨rfl, by rfl, ?_⟩
     obtain ⟨b12, l12⟩ := S4.out.b12 _ rfl
     obtain ⟨b13, l13⟩ := S4.out.b13 _ rfl
     have n12 : ¬ (z13 = z12) := b13.ne_ b12 (by decide)
     have f0 := b12.cell_ 0 _ rfl
     have f1 := b12.cell_ 1 _ rfl
     have f2 := b13.cell_ 0 _ rfl
     have f3 := b13.cell_ 1 _ rfl
     have f4 := b13.cell_ 2 _ rfl
     have ff := b12.frozen
     have fg := b13.frozen
     clear b12 b13
     refine anyO_one (i := 10) (by kernel_rfl) rfl (fun K hK => ?_)
     go_simp
     refine hK.out _ _ (fun _ => (((Below.refl _ _).setCell (p := ⟨z12, 0, none⟩) (Nat.le_trans HBZ.out l12) _).setCell (p := ⟨z12, 1, none⟩) (Nat.le_trans HBZ.out l12) _)) ?_
     clear hK K
     refine anyO_one (i := 11) (by kernel_rfl) rfl (fun K hK => ?_)
     go_simp
     have l13' := Nat.le_trans HBZ.out l13
     refine hK.out _ _ (fun _ => ((((Below.refl _ _).setCell (p := ⟨z13, 0, none⟩) l13' _).setCell (p := ⟨z13, 1, none⟩) l13' _).setCell (p := ⟨z13, 2, none⟩) l13' _)) ?_
     clear hK K
     refine anyO_done (by kernel_rfl) ?_ _
     have FN := Lib.hid (S4.out.fin (a := ⟨ak, aT, aS⟩) rfl)
     clear f0 f1 f2 f3 f4 ff fg n12 l12 l13 l13'
     generalize World.setCell _ _ _ = x9 at FN ⊢
     go_wp2_with fail
     go_meet
     exact ⟨z12, z13, _, _, rfl, rfl, OfN.mk (DX.out.keep FN.out.hb).bel (DX.out.keep FN.out.hb).rw_ (DX.out.keep FN.out.hb).ra FN.out.b12 FN.out.b13 FN.out.rows FN.out.ses (Nat.lt_of_lt_of_le DX.out.ra.lt FN.out.l12) (Nat.lt_of_lt_of_le DX.out.ra.lt FN.out.l13)⟩
  ·go_simp
   refine hK.out _ _ (fun _ => ((boxed _ _).mono (Nat.le_trans HBZ.out S0.out.hb.size))) ?_
   clear hK K
   have S1 := Lib.hid S0.out.f12
   obtain ⟨z12, hz⟩ : ∃ z, x0.heap.size = z := ⟨_, rfl⟩
   rw [hz] at S1 ⊢
   generalize World.alloc _ _ = x1 at S1 ⊢
   clear S0 hz
   refine anyO_two (i := 1) (j := 9) (by kernel_rfl) rfl rfl (fun K hK => ?_) (fun K hK => ?_)
   ·go_simp
    refine (refcopy_any x1 _ _ W (HX.out _ S1.out.hb)).mono ?_
    rintro e x2 ⟨r2, s2, cs2, rfl, o1, o2, b⟩
    refine hK.out _ _ (fun _ => (b.mono (Nat.le_trans HBZ.out S1.out.hb.size))) ?_
    clear hK K
    obtain ⟨A1, k1, rfl⟩ := o1.form
    obtain ⟨g2, cap2, rfl⟩ := o2.form (by rw [HN.out]; omega)
    rw (occs := .pos [1]) [HN.out] at o2
    have HGE := Lib.hid (Nat.le_trans S1.out.hb.size o2.lt.1)
    have S2 := Lib.hid (S1.out.did (Nat.le_trans HBX.out.size S1.out.hb.size) o1 o2 b)
    rw [HN.out]
    clear b S1 o1 o2
    refine anyO_two (i := 4) (j := 9) (by kernel_rfl) rfl rfl (fun K hK => ?_) (fun K hK => ?_)
    ·go_simp
     obtain ⟨o1, cs3, o2⟩ := S2.out.nx _ _ _ rfl
     refine (refDid_any x2 w.heap.size _ g2 cap2 n W cs3 i ⟨kx, key, val⟩ (Nat.le_trans HBX.out.size S2.out.hb.size) HN.out o1 o2 hin HGD.out (HT.out.below (HBX.out.trans (S2.out.hb.mono HBX.out.size))) HKK.out.1 HKK.out.2 HKV.out.1 HKV.out.2).mono ?_
     rintro e x3 ⟨r3, cs4, rfl, o3, o4, on⟩
     refine hK.out _ _ (fun _ => (on.bel (Below.refl _ _) (Nat.le_trans HBZ.out S2.out.hb.size) (Nat.le_trans HBZ.out HGE.out) (Nat.le_trans HBZ.out HGE.out))) ?_
     clear hK K
     rw [HRD.out] at o3 o4 ⊢
     obtain ⟨A3, k3, rfl⟩ := o3.form
     have S3 := Lib.hid (S2.out.did2 on HGE.out o3 o4)
     clear S2 o1 o2 o3 o4 on
     unfold anV
     refine anyO_seg false [5, 6, 7] 3 rfl (by kernel_rfl) (by kernel_rfl) (by kernel_rfl) (fun _ _ d _ _ h => by cases d <;> exact h) (fun h => by cases h) ?_
     simp only [pickOps, List.getElem?_toArray, List.getElem?_cons_zero, List.getElem?_cons_succ]
     go_wp2_with fail
     refine ⟨rfl, by rfl, ?_⟩
     refine anyO_one (i := 9) (by kernel_rfl) rfl (fun K hK => ?_)
     go_simp
     refine hK.out _ _ (fun _ => ((boxed _ _).mono (Nat.le_trans HBZ.out S3.out.hb.size))) ?_
     clear hK K
     have S4 := Lib.hid S3.out.f13
     obtain ⟨z13, hz⟩ : ∃ z, x3.heap.size = z := ⟨_, rfl⟩
     rw [hz] at S4 ⊢
     generalize World.alloc _ _ = x4 at S4 ⊢
     clear S3 hz
     obtain ⟨b12, l12⟩ := S4.out.b12 _ rfl
     obtain ⟨b13, l13⟩ := S4.out.b13 _ rfl
     have n12 : ¬ (z13 = z12) := b13.ne_ b12 (by decide)
     have f0 := b12.cell_ 0 _ rfl
     have f1 := b12.cell_ 1 _ rfl
     have f2 := b13.cell_ 0 _ rfl
     have f3 := b13.cell_ 1 _ rfl
     have f4 := b13.cell_ 2 _ rfl
     have ff := b12.frozen
     have fg := b13.frozen
     clear b12 b13
     refine anyO_one (i := 10) (by kernel_rfl) rfl (fun K hK => ?_)
     go_simp
     refine hK.out _ _ (fun _ => (((Below.refl _ _).setCell (p := ⟨z12, 0, none⟩) (Nat.le_trans HBZ.out l12) _).setCell (p := ⟨z12, 1, none⟩) (Nat.le_trans HBZ.out l12) _)) ?_
     clear hK K
     refine anyO_one (i := 11) (by kernel_rfl) rfl (fun K hK => ?_)
     go_simp
     have l13' := Nat.le_trans HBZ.out l13
     refine hK.out _ _ (fun _ => ((((Below.refl _ _).setCell (p := ⟨z13, 0, none⟩) l13' _).setCell (p := ⟨z13, 1, none⟩) l13' _).setCell (p := ⟨z13, 2, none⟩) l13' _)) ?_
     clear hK K
     refine anyO_done (by kernel_rfl) ?_ _
     have FN := Lib.hid (S4.out.fin (a := ⟨ak, aT, aS⟩) rfl)
     clear f0 f1 f2 f3 f4 ff fg n12 l12 l13 l13'
     generalize World.setCell _ _ _ = x9 at FN ⊢
     go_wp2_with fail
     go_meet
     exact ⟨z12, z13, _, _, rfl, rfl, OfN.mk (DX.out.keep FN.out.hb).bel (DX.out.keep FN.out.hb).rw_ (DX.out.keep FN.out.hb).ra FN.out.b12 FN.out.b13 FN.out.rows FN.out.ses (Nat.lt_of_lt_of_le DX.out.ra.lt FN.out.l12) (Nat.lt_of_lt_of_le DX.out.ra.lt FN.out.l13)⟩
    ·go_simp
     refine hK.out _ _ (fun _ => ((boxed _ _).mono (Nat.le_trans HBZ.out S2.out.hb.size))) ?_
     clear hK K
     have S3 := Lib.hid S2.out.f13
     obtain ⟨z13, hz⟩ : ∃ z, x2.heap.size = z := ⟨_, rfl⟩
     rw [hz] at S3 ⊢
     generalize World.alloc _ _ = x3 at S3 ⊢
     clear S2 hz
     refine anyO_one (i := 4) (by kernel_rfl) rfl (fun K hK => ?_)
     go_simp
     obtain ⟨o1, cs3, o2⟩ := S3.out.nx _ _ _ rfl
     refine (refDid_any x3 w.heap.size _ g2 cap2 n W cs3 i ⟨kx, key, val⟩ (Nat.le_trans HBX.out.size S3.out.hb.size) HN.out o1 o2 hin HGD.out (HT.out.below (HBX.out.trans (S3.out.hb.mono HBX.out.size))) HKK.out.1 HKK.out.2 HKV.out.1 HKV.out.2).mono ?_
     rintro e x4 ⟨r3, cs4, rfl, o3, o4, on⟩
     refine hK.out _ _ (fun _ => (on.bel (Below.refl _ _) (Nat.le_trans HBZ.out S3.out.hb.size) (Nat.le_trans HBZ.out HGE.out) (Nat.le_trans HBZ.out HGE.out))) ?_
     clear hK K
     rw [HRD.out] at o3 o4 ⊢
     obtain ⟨A3, k3, rfl⟩ := o3.form
     have S4 := Lib.hid (S3.out.did2 on HGE.out o3 o4)
     clear S3 o1 o2 o3 o4 on
     unfold anV
     refine anyO_seg false [5, 6, 7] 2 rfl (by kernel_rfl) (by kernel_rfl) (by kernel_rfl) (fun _ _ d _ _ h => by cases d <;> exact h) (fun h => by cases h) ?_
     simp only [pickOps, List.getElem?_toArray, List.getElem?_cons_zero, List.getElem?_cons_succ]
     go_wp2_with fail
     refine ⟨rfl, by rfl, ?_⟩
     obtain ⟨b12, l12⟩ := S4.out.b12 _ rfl
     obtain ⟨b13, l13⟩ := S4.out.b13 _ rfl
     have n12 : ¬ (z13 = z12) := b13.ne_ b12 (by decide)
     have f0 := b12.cell_ 0 _ rfl
     have f1 := b12.cell_ 1 _ rfl
     have f2 := b13.cell_ 0 _ rfl
     have f3 := b13.cell_ 1 _ rfl
     have f4 := b13.cell_ 2 _ rfl
     have ff := b12.frozen
     have fg := b13.frozen
     clear b12 b13
     refine anyO_one (i := 10) (by kernel_rfl) rfl (fun K hK => ?_)
     go_simp
     refine hK.out _ _ (fun _ => (((Below.refl _ _).setCell (p := ⟨z12, 0, none⟩) (Nat.le_trans HBZ.out l12) _).setCell (p := ⟨z12, 1, none⟩) (Nat.le_trans HBZ.out l12) _)) ?_
     clear hK K
     refine anyO_one (i := 11) (by kernel_rfl) rfl (fun K hK => ?_)
     go_simp
     have l13' := Nat.le_trans HBZ.out l13
     refine hK.out _ _ (fun _ => ((((Below.refl _ _).setCell (p := ⟨z13, 0, none⟩) l13' _).setCell (p := ⟨z13, 1, none⟩) l13' _).setCell (p := ⟨z13, 2, none⟩) l13' _)) ?_
     clear hK K
     refine anyO_done (by kernel_rfl) ?_ _
     have FN := Lib.hid (S4.out.fin (a := ⟨ak, aT, aS⟩) rfl)
     clear f0 f1 f2 f3 f4 ff fg n12 l12 l13 l13'
     generalize World.setCell _ _ _ = x9 at FN ⊢
     go_wp2_with fail
     go_meet
     exact ⟨z12, z13, _, _, rfl, rfl, OfN.mk (DX.out.keep FN.out.hb).bel (DX.out.keep FN.out.hb).rw_ (DX.out.keep FN.out.hb).ra FN.out.b12 FN.out.b13 FN.out.rows FN.out.ses (Nat.lt_of_lt_of_le DX.out.ra.lt FN.out.l12) (Nat.lt_of_lt_of_le DX.out.ra.lt FN.out.l13)⟩
   ·go_simp
    refine hK.out _ _ (fun _ => ((boxed _ _).mono (Nat.le_trans HBZ.out S1.out.hb.size))) ?_
    clear hK K
    have S2 := Lib.hid S1.out.f13
    obtain ⟨z13, hz⟩ : ∃ z, x1.heap.size = z := ⟨_, rfl⟩
    rw [hz] at S2 ⊢
    generalize World.alloc _ _ = x2 at S2 ⊢
    clear S1 hz
    refine anyO_one (i := 1) (by kernel_rfl) rfl (fun K hK => ?_)
    go_simp
    refine (refcopy_any x2 _ _ W (HX.out _ S2.out.hb)).mono ?_
    rintro e x3 ⟨r2, s2, cs2, rfl, o1, o2, b⟩
    refine hK.out _ _ (fun _ => (b.mono (Nat.le_trans HBZ.out S2.out.hb.size))) ?_
    clear hK K
    obtain ⟨A1, k1, rfl⟩ := o1.form
    obtain ⟨g2, cap2, rfl⟩ := o2.form (by rw [HN.out]; omega)
    rw (occs := .pos [1]) [HN.out] at o2
    have HGE := Lib.hid (Nat.le_trans S2.out.hb.size o2.lt.1)
    have S3 := Lib.hid (S2.out.did (Nat.le_trans HBX.out.size S2.out.hb.size) o1 o2 b)
    rw [HN.out]
    clear b S2 o1 o2
    refine anyO_one (i := 4) (by kernel_rfl) rfl (fun K hK => ?_)
    go_simp
    obtain ⟨o1, cs3, o2⟩ := S3.out.nx _ _ _ rfl
    refine (refDid_any x3 w.heap.size _ g2 cap2 n W cs3 i ⟨kx, key, val⟩ (Nat.le_trans HBX.out.size S3.out.hb.size) HN.out o1 o2 hin HGD.out (HT.out.below (HBX.out.trans (S3.out.hb.mono HBX.out.size))) HKK.out.1 HKK.out.2 HKV.out.1 HKV.out.2).mono ?_
    rintro e x4 ⟨r3, cs4, rfl, o3, o4, on⟩
    refine hK.out _ _ (fun _ => (on.bel (Below.refl _ _) (Nat.le_trans HBZ.out S3.out.hb.size) (Nat.le_trans HBZ.out HGE.out) (Nat.le_trans HBZ.out HGE.out))) ?_
    clear hK K
    rw [HRD.out] at o3 o4 ⊢
    obtain ⟨A3, k3, rfl⟩ := o3.form
    have S4 := Lib.hid (S3.out.did2 on HGE.out o3 o4)
    clear S3 o1 o2 o3 o4 on
    unfold anV
    refine anyO_seg false [5, 6, 7] 2 rfl (by kernel_rfl) (by kernel_rfl) (by kernel_rfl) (fun _ _ d _ _ h => by cases d <;> exact h) (fun h => by cases h) ?_
    simp only [pickOps, List.getElem?_toArray, List.getElem?_cons_zero, List.getElem?_cons_succ]
    go_wp2_with fail
    refine ⟨rfl, by rfl, ?_⟩
    obtain ⟨b12, l12⟩ := S4.out.b12 _ rfl
    obtain ⟨b13, l13⟩ := S4.out.b13 _ rfl
    have n12 : ¬ (z13 = z12) := b13.ne_ b12 (by decide)
    have f0 := b12.cell_ 0 _ rfl
    have f1 := b12.cell_ 1 _ rfl
    have f2 := b13.cell_ 0 _ rfl
    have f3 := b13.cell_ 1 _ rfl
    have f4 := b13.cell_ 2 _ rfl
    have ff := b12.frozen
    have fg := b13.frozen
    clear b12 b13
    refine anyO_one (i := 10) (by kernel_rfl) rfl (fun K hK => ?_)
    go_simp
    refine hK.out _ _ (fun _ => (((Below.refl _ _).setCell (p := ⟨z12, 0, none⟩) (Nat.le_trans HBZ.out l12) _).setCell (p := ⟨z12, 1, none⟩) (Nat.le_trans HBZ.out l12) _)) ?_
    clear hK K
    refine anyO_one (i := 11) (by kernel_rfl) rfl (fun K hK => ?_)
    go_simp
    have l13' := Nat.le_trans HBZ.out l13
    refine hK.out _ _ (fun _ => ((((Below.refl _ _).setCell (p := ⟨z13, 0, none⟩) l13' _).setCell (p := ⟨z13, 1, none⟩) l13' _).setCell (p := ⟨z13, 2, none⟩) l13' _)) ?_
    clear hK K
    refine anyO_done (by kernel_rfl) ?_ _
    have FN := Lib.hid (S4.out.fin (a := ⟨ak, aT, aS⟩) rfl)
    clear f0 f1 f2 f3 f4 ff fg n12 l12 l13 l13'
    generalize World.setCell _ _ _ = x9 at FN ⊢
    go_wp2_with fail
    go_meet
    exact ⟨z12, z13, _, _, rfl, rfl, OfN.mk (DX.out.keep FN.out.hb).bel (DX.out.keep FN.out.hb).rw_ (DX.out.keep FN.out.hb).ra FN.out.b12 FN.out.b13 FN.out.rows FN.out.ses (Nat.lt_of_lt_of_le DX.out.ra.lt FN.out.l12) (Nat.lt_of_lt_of_le DX.out.ra.lt FN.out.l13)⟩
  ·go_simp
   refine hK.out _ _ (fun _ => ((boxed _ _).mono (Nat.le_trans HBZ.out S0.out.hb.size))) ?_
   clear hK K
   have S1 := Lib.hid S0.out.f13
   obtain ⟨z13, hz⟩ : ∃ z, x0.heap.size = z := ⟨_, rfl⟩
   rw [hz] at S1 ⊢
   generalize World.alloc _ _ = x1 at S1 ⊢
   clear S0 hz
   refine anyO_two (i := 1) (j := 8) (by kernel_rfl) rfl rfl (fun K hK => ?_) (fun K hK => ?_)
   ·go_simp
    refine (refcopy_any x1 _ _ W (HX.out _ S1.out.hb)).mono ?_
    rintro e x2 ⟨r2, s2, cs2, rfl, o1, o2, b⟩
    refine hK.out _ _ (fun _ => (b.mono (Nat.le_trans HBZ.out S1.out.hb.size))) ?_
    clear hK K
    obtain ⟨A1, k1, rfl⟩ := o1.form
    obtain ⟨g2, cap2, rfl⟩ := o2.form (by rw [HN.out]; omega)
    rw (occs := .pos [1]) [HN.out] at o2
    have HGE := Lib.hid (Nat.le_trans S1.out.hb.size o2.lt.1)
    have S2 := Lib.hid (S1.out.did (Nat.le_trans HBX.out.size S1.out.hb.size) o1 o2 b)
    rw [HN.out]
    clear b S1 o1 o2
    refine anyO_two (i := 4) (j := 8) (by kernel_rfl) rfl rfl (fun K hK => ?_) (fun K hK => ?_)
    ·go_simp
     obtain ⟨o1, cs3, o2⟩ := S2.out.nx _ _ _ rfl
     refine (refDid_any x2 w.heap.size _ g2 cap2 n W cs3 i ⟨kx, key, val⟩ (Nat.le_trans HBX.out.size S2.out.hb.size) HN.out o1 o2 hin HGD.out (HT.out.below (HBX.out.trans (S2.out.hb.mono HBX.out.size))) HKK.out.1 HKK.out.2 HKV.out.1 HKV.out.2).mono ?_
     rintro e x3 ⟨r3, cs4, rfl, o3, o4, on⟩
     refine hK.out _ _ (fun _ => (on.bel (Below.refl _ _) (Nat.le_trans HBZ.out S2.out.hb.size) (Nat.le_trans HBZ.out HGE.out) (Nat.le_trans HBZ.out HGE.out))) ?_
     clear hK K
     rw [HRD.out] at o3 o4 ⊢
     obtain ⟨A3, k3, rfl⟩ := o3.form
     have S3 := Lib.hid (S2.out.did2 on HGE.out o3 o4)
     clear S2 o1 o2 o3 o4 on
     unfold anV
     refine anyO_seg false [5, 6, 7] 3 rfl (by kernel_rfl) (by kernel_rfl) (by kernel_rfl) (fun _ _ d _ _ h => by cases d <;> exact h) (fun h => by cases h) ?_
     simp only [pickOps, List.getElem?_toArray, List.getElem?_cons_zero, List.getElem?_cons_succ]
     go_wp2_with fail
     refine ⟨rfl, by rfl, ?_⟩
     refine anyO_one (i := 8) (by kernel_rfl) rfl (fun K hK => ?_)
     go_simp
     refine hK.out _ _ (fun _ => ((boxed _ _).mono (Nat.le_trans HBZ.out S3.out.hb.size))) ?_
     clear hK K
     have S4 := Lib.hid S3.out.f12
     obtain ⟨z12, hz⟩ : ∃ z, x3.heap.size = z := ⟨_, rfl⟩
     rw [hz] at S4 ⊢
     generalize World.alloc _ _ = x4 at S4 ⊢
     clear S3 hz
     obtain ⟨b12, l12⟩ := S4.out.b12 _ rfl
     obtain ⟨b13, l13⟩ := S4.out.b13 _ rfl
     have n12 : ¬ (z13 = z12) := b13.ne_ b12 (by decide)
     have f0 := b12.cell_ 0 _ rfl
     have f1 := b12.cell_ 1 _ rfl
     have f2 := b13.cell_ 0 _ rfl
     have f3 := b13.cell_ 1 _ rfl
     have f4 := b13.cell_ 2 _ rfl
     have ff := b12.frozen
     have fg := b13.frozen
     clear b12 b13
     refine anyO_one (i := 10) (by kernel_rfl) rfl (fun K hK => ?_)
     go_simp
     refine hK.out _ _ (fun _ => (((Below.refl _ _).setCell (p := ⟨z12, 0, none⟩) (Nat.le_trans HBZ.out l12) _).setCell (p := ⟨z12, 1, none⟩) (Nat.le_trans HBZ.out l12) _)) ?_
     clear hK K
     refine anyO_one (i := 11) (by kernel_rfl) rfl (fun K hK => ?_)
     go_simp
     have l13' := Nat.le_trans HBZ.out l13
     refine hK.out _ _ (fun _ => ((((Below.refl _ _).setCell (p := ⟨z13, 0, none⟩) l13' _).setCell (p := ⟨z13, 1, none⟩) l13' _).setCell (p := ⟨z13, 2, none⟩) l13' _)) ?_
     clear hK K
     refine anyO_done (by kernel_rfl) ?_ _
     have FN := Lib.hid (S4.out.fin (a := ⟨ak, aT, aS⟩) rfl)
     clear f0 f1 f2 f3 f4 ff fg n12 l12 l13 l13'
     generalize World.setCell _ _ _ = x9 at FN ⊢
     go_wp2_with fail
     go_meet
     exact ⟨z12, z13, _, _, rfl, rfl, OfN.mk (DX.out.keep FN.out.hb).bel (DX.out.keep FN.out.hb).rw_ (DX.out.keep FN.out.hb).ra FN.out.b12 FN.out.b13 FN.out.rows FN.out.ses (Nat.lt_of_lt_of_le DX.out.ra.lt FN.out.l12) (Nat.lt_of_lt_of_le DX.out.ra.lt FN.out.l13)⟩
    ·go_simp
     refine hK.out _ _ (fun _ => ((boxed _ _).mono (Nat.le_trans HBZ.out S2.out.hb.size))) ?_
     clear hK K
     have S3 := Lib.hid S2.out.f12
     obtain ⟨z12, hz⟩ : ∃ z, x2.heap.size = z := ⟨_, rfl⟩
     rw [hz] at S3 ⊢
     generalize World.alloc _ _ = x3 at S3 ⊢
     clear S2 hz
     refine anyO_one (i := 4) (by kernel_rfl) rfl (fun K hK => ?_)
     go_simp
     obtain ⟨o1, cs3, o2⟩ := S3.out.nx _ _ _ rfl
     refine (refDid_any x3 w.heap.size _ g2 cap2 n W cs3 i ⟨kx, key, val⟩ (Nat.le_trans HBX.out.size S3.out.hb.size) HN.out o1 o2 hin HGD.out (HT.out.below (HBX.out.trans (S3.out.hb.mono HBX.out.size))) HKK.out.1 HKK.out.2 HKV.out.1 HKV.out.2).mono ?_
     rintro e x4 ⟨r3, cs4, rfl, o3, o4, on⟩
     refine hK.out _ _ (fun _ => (on.bel (Below.refl _ _) (Nat.le_trans HBZ.out S3.out.hb.size) (Nat.le_trans HBZ.out HGE.out) (Nat.le_trans HBZ.out HGE.out))) ?_
     clear hK K
     rw [HRD.out] at o3 o4 ⊢
     obtain ⟨A3, k3, rfl⟩ := o3.form
     have S4 := Lib.hid (S3.out.did2 on HGE.out o3 o4)
     clear S3 o1 o2 o3 o4 on
     unfold anV
     refine anyO_seg false [5, 6, 7] 2 rfl (by kernel_rfl) (by kernel_rfl) (by kernel_rfl) (fun _ _ d _ _ h => by cases d <;> exact h) (fun h => by cases h) ?_
     simp only [pickOps, List.getElem?_toArray, List.getElem?_cons_zero, List.getElem?_cons_succ]
     go_wp2_with fail
     refine ⟨rfl, by rfl, ?_⟩
     obtain ⟨b12, l12⟩ := S4.out.b12 _ rfl
     obtain ⟨b13, l13⟩ := S4.out.b13 _ rfl
     have n12 : ¬ (z13 = z12) := b13.ne_ b12 (by decide)
     have f0 := b12.cell_ 0 _ rfl
     have f1 := b12.cell_ 1 _ rfl
     have f2 := b13.cell_ 0 _ rfl
     have f3 := b13.cell_ 1 _ rfl
     have f4 := b13.cell_ 2 _ rfl
     have ff := b12.frozen
     have fg := b13.frozen
     clear b12 b13
     refine anyO_one (i := 10) (by kernel_rfl) rfl (fun K hK => ?_)
     go_simp
     refine hK.out _ _ (fun _ => (((Below.refl _ _).setCell (p := ⟨z12, 0, none⟩) (Nat.le_trans HBZ.out l12) _).setCell (p := ⟨z12, 1, none⟩) (Nat.le_trans HBZ.out l12) _)) ?_
     clear hK K
     refine anyO_one (i := 11) (by kernel_rfl) rfl (fun K hK => ?_)
     go_simp
     have l13' := Nat.le_trans HBZ.out l13
     refine hK.out _ _ (fun _ => ((((Below.refl _ _).setCell (p := ⟨z13, 0, none⟩) l13' _).setCell (p := ⟨z13, 1, none⟩) l13' _).setCell (p := ⟨z13, 2, none⟩) l13' _)) ?_
     clear hK K
     refine anyO_done (by kernel_rfl) ?_ _
     have FN := Lib.hid (S4.out.fin (a := ⟨ak, aT, aS⟩) rfl)
     clear f0 f1 f2 f3 f4 ff fg n12 l12 l13 l13'
     generalize World.setCell _ _ _ = x9 at FN ⊢
     go_wp2_with fail
     go_meet
     exact ⟨z12, z13, _, _, rfl, rfl, OfN.mk (DX.out.keep FN.out.hb).bel (DX.out.keep FN.out.hb).rw_ (DX.out.keep FN.out.hb).ra FN.out.b12 FN.out.b13 FN.out.rows FN.out.ses (Nat.lt_of_lt_of_le DX.out.ra.lt FN.out.l12) (Nat.lt_of_lt_of_le DX.out.ra.lt FN.out.l13)⟩
   ·go_simp
    refine hK.out _ _ (fun _ => ((boxed _ _).mono (Nat.le_trans HBZ.out S1.out.hb.size))) ?_
    clear hK K
    have S2 := Lib.hid S1.out.f12
    obtain ⟨z12, hz⟩ : ∃ z, x1.heap.size = z := ⟨_, rfl⟩
    rw [hz] at S2 ⊢
    generalize World.alloc _ _ = x2 at S2 ⊢
    clear S1 hz
    refine anyO_one (i := 1) (by kernel_rfl) rfl (fun K hK => ?_)
    go_simp
    refine (refcopy_any x2 _ _ W (HX.out _ S2.out.hb)).mono ?_
    rintro e x3 ⟨r2, s2, cs2, rfl, o1, o2, b⟩
    refine hK.out _ _ (fun _ => (b.mono (Nat.le_trans HBZ.out S2.out.hb.size))) ?_
    clear hK K
    obtain ⟨A1, k1, rfl⟩ := o1.form
    obtain ⟨g2, cap2, rfl⟩ := o2.form (by rw [HN.out]; omega)
    rw (occs := .pos [1]) [HN.out] at o2
    have HGE := Lib.hid (Nat.le_trans S2.out.hb.size o2.lt.1)
    have S3 := Lib.hid (S2.out.did (Nat.le_trans HBX.out.size S2.out.hb.size) o1 o2 b)
    rw [HN.out]
    clear b S2 o1 o2
    refine anyO_one (i := 4) (by kernel_rfl) rfl (fun K hK => ?_)
    go_simp
    obtain ⟨o1, cs3, o2⟩ := S3.out.nx _ _ _ rfl
    refine (refDid_any x3 w.heap.size _ g2 cap2 n W cs3 i ⟨kx, key, val⟩ (Nat.le_trans HBX.out.size S3.out.hb.size) HN.out o1 o2 hin HGD.out (HT.out.below (HBX.out.trans (S3.out.hb.mono HBX.out.size))) HKK.out.1 HKK.out.2 HKV.out.1 HKV.out.2).mono ?_
    rintro e x4 ⟨r3, cs4, rfl, o3, o4, on⟩
    refine hK.out _ _ (fun _ => (on.bel (Below.refl _ _) (Nat.le_trans HBZ.out S3.out.hb.size) (Nat.le_trans HBZ.out HGE.out) (Nat.le_trans HBZ.out HGE.out))) ?_
    clear hK K
    rw [HRD.out] at o3 o4 ⊢
    obtain ⟨A3, k3, rfl⟩ := o3.form
    have S4 := Lib.hid (S3.out.did2 on HGE.out o3 o4)
    clear S3 o1 o2 o3 o4 on
    unfold anV
    refine anyO_seg false [5, 6, 7] 2 rfl (by kernel_rfl) (by kernel_rfl) (by kernel_rfl) (fun _ _ d _ _ h => by cases d <;> exact h) (fun h => by cases h) ?_
    simp only [pickOps, List.getElem?_toArray, List.getElem?_cons_zero, List.getElem?_cons_succ]
    go_wp2_with fail
    refine ⟨rfl, by rfl, ?_⟩
    obtain ⟨b12, l12⟩ := S4.out.b12 _ rfl
    obtain ⟨b13, l13⟩ := S4.out.b13 _ rfl
    have n12 : ¬ (z13 = z12) := b13.ne_ b12 (by decide)
    have f0 := b12.cell_ 0 _ rfl
    have f1 := b12.cell_ 1 _ rfl
    have f2 := b13.cell_ 0 _ rfl
    have f3 := b13.cell_ 1 _ rfl
    have f4 := b13.cell_ 2 _ rfl
    have ff := b12.frozen
    have fg := b13.frozen
    clear b12 b13
    refine anyO_one (i := 10) (by kernel_rfl) rfl (fun K hK => ?_)
    go_simp
    refine hK.out _ _ (fun _ => (((Below.refl _ _).setCell (p := ⟨z12, 0, none⟩) (Nat.le_trans HBZ.out l12) _).setCell (p := ⟨z12, 1, none⟩) (Nat.le_trans HBZ.out l12) _)) ?_
    clear hK K
    refine anyO_one (i := 11) (by kernel_rfl) rfl (fun K hK => ?_)
    go_simp
    have l13' := Nat.le_trans HBZ.out l13
    refine hK.out _ _ (fun _ => ((((Below.refl _ _).setCell (p := ⟨z13, 0, none⟩) l13' _).setCell (p := ⟨z13, 1, none⟩) l13' _).setCell (p := ⟨z13, 2, none⟩) l13' _)) ?_
    clear hK K
    refine anyO_done (by kernel_rfl) ?_ _
    have FN := Lib.hid (S4.out.fin (a := ⟨ak, aT, aS⟩) rfl)
    clear f0 f1 f2 f3 f4 ff fg n12 l12 l13 l13'
    generalize World.setCell _ _ _ = x9 at FN ⊢
    go_wp2_with fail
    go_meet
    exact ⟨z12, z13, _, _, rfl, rfl, OfN.mk (DX.out.keep FN.out.hb).bel (DX.out.keep FN.out.hb).rw_ (DX.out.keep FN.out.hb).ra FN.out.b12 FN.out.b13 FN.out.rows FN.out.ses (Nat.lt_of_lt_of_le DX.out.ra.lt FN.out.l12) (Nat.lt_of_lt_of_le DX.out.ra.lt FN.out.l13)⟩
 case rest =>
  obtain ⟨z12, z13, r', s', rfl, rfl, FN0⟩ := hcut
  have FN := Lib.hid (FN0.keep (Below.refl _ _).drew)
  obtain ⟨A5, k5, rfl⟩ := FN0.rows.form
  obtain ⟨cs5, hs5⟩ := FN.out.ses
  obtain ⟨A6, k6, rfl⟩ := own_slice hs5.own
  clear FN0 D2 y0 y1 a0 a1 a2
  go_upto_region 9 with fail
  refine region_segs [2, 3] (by kernel_rfl) ?_
  generalize wc.drew = x7 at FN hs5 ⊢
  have lz := FN.out.l12
  have lz' := FN.out.l13
  have m1 : ¬ (z12 = w.heap.size + 2) := by omega
  have m2 : ¬ (z13 = w.heap.size + 2) := by omega
  have m3 : ¬ (z12 = w.heap.size + 3) := by omega
  have m4 : ¬ (z13 = w.heap.size + 3) := by omega
  have r0 := FN.out.b12.cell_ 0 _ rfl
  have r1 := FN.out.b12.cell_ 1 _ rfl
  have k0 := FN.out.b13.cell_ 0 _ rfl
  have k1 := FN.out.b13.cell_ 1 _ rfl
  have k2 := FN.out.b13.cell_ 2 _ rfl
  have u0 := FN.out.rw_.cell_ 0 _ rfl
  have u1 := FN.out.rw_.cell_ 1 _ rfl
  have v0 := FN.out.ra.cell_ 0 _ rfl
  have v1 := FN.out.ra.cell_ 1 _ rfl
  have v2 := FN.out.ra.cell_ 2 _ rfl
  have ff := FN.out.rw_.frozen
  have fg := FN.out.ra.frozen
  obtain ⟨E1, E2, E4, E5⟩ := fin_stores FN.out.bel rfl FN.out.rw_ FN.out.ra (.slice A5 V.rows.length k5) (.slice A6 V.ses.length k6) (.int .i64 ak) (.string aT) (.int .i64 aS)
  have q0 := E4.cell_ 0 _ rfl
  have q1 := E4.cell_ 1 _ rfl
  have p0 := E5.cell_ 0 _ rfl
  have p1 := E5.cell_ 1 _ rfl
  have p2 := E5.cell_ 2 _ rfl
  have FIN := Lib.hid (And.intro E1 (And.intro (FN.out.rows.keeps (E2 _ (by decide) (by decide))) (osl_keeps hs5 (E2 _ (by decide) (by decide)) (E2 _ (by decide) (by decide)))))
  clear E1 E2 E4 E5 hs5 lz lz'
  refine anyB_seg [0] 4 rfl (by kernel_rfl) (by kernel_rfl) (by kernel_rfl) (fun _ _ d _ _ h => by cases d <;> exact h) ?_
  simp only [pickOps, List.getElem?_toArray, List.getElem?_cons_zero]
  go_wp2_with fail
  refine ⟨rfl, by rfl, ?_⟩
  refine anyB_two (i := 1) (j := 2) (by kernel_rfl) rfl rfl (fun K hK => ?_) (fun K hK => ?_)
  ·go_simp
   refine hK.out _ _ (fun _ => (Below.refl _ _)) ?_
   clear hK K
   refine anyB_one (i := 2) (by kernel_rfl) rfl (fun K hK => ?_)
   go_simp
   refine hK.out _ _ (fun h => absurd (by decide) h) ?_
   clear hK K
   refine anyB_one (i := 3) (by kernel_rfl) rfl (fun K hK => ?_)
   go_simp
   refine hK.out _ _ (fun h => absurd (by decide) h) ?_
   clear hK K
   refine anyB_seg [4] 0 rfl (by kernel_rfl) (by kernel_rfl) (by kernel_rfl) (fun _ _ d _ _ h => by cases d <;> exact h) ?_
   simp only [pickOps, List.getElem?_toArray, List.getElem?_cons_zero, List.getElem?_cons_succ]
   go_wp2_with fail
   refine ⟨rfl, by rfl, ?_⟩
   refine anyB_done (by kernel_rfl) ?_ _
   clear v0 v1 v2 ff fg r0 r1 k0 k1 k2 u0 u1
   generalize World.setCell _ _ _ = x8 at FIN q0 q1 p0 p1 p2 ⊢
   go_wp2_with fail
   refine bodyPost_ret (v := .tuple #[.agg #[.slice A5 V.rows.length k5, .slice A6 V.ses.length k6], .agg #[.int .i64 ak, .string aT, .int .i64 aS], .int .i64 0]) (by simp [results, Tryd.results24, go_sem, q0, q1, p0, p1, p2]) rfl ⟨_, _, cs5, by rw [hR.out, HE.out]; rfl, by rw [hR.out]; exact FIN.out.2.1, by rw [hR.out]; exact FIN.out.2.2, FIN.out.1⟩
  ·go_simp
   refine hK.out _ _ (fun h => absurd (by decide) h) ?_
   clear hK K
   refine anyB_seg [1] 2 rfl (by kernel_rfl) (by kernel_rfl) (by kernel_rfl) (fun _ _ d _ _ h => by cases d <;> exact h) ?_
   simp only [pickOps, List.getElem?_toArray, List.getElem?_cons_zero, List.getElem?_cons_succ]
   go_wp2_with fail
   refine ⟨rfl, by rfl, ?_⟩
   refine anyB_one (i := 3) (by kernel_rfl) rfl (fun K hK => ?_)
   go_simp
   refine hK.out _ _ (fun h => absurd (by decide) h) ?_
   clear hK K
   refine anyB_seg [4] 0 rfl (by kernel_rfl) (by kernel_rfl) (by kernel_rfl) (fun _ _ d _ _ h => by cases d <;> exact h) ?_
   simp only [pickOps, List.getElem?_toArray, List.getElem?_cons_zero, List.getElem?_cons_succ]
   go_wp2_with fail
   refine ⟨rfl, by rfl, ?_⟩
   refine anyB_done (by kernel_rfl) ?_ _
   clear v0 v1 v2 ff fg r0 r1 k0 k1 k2 u0 u1
   generalize World.setCell _ _ _ = x8 at FIN q0 q1 p0 p1 p2 ⊢
   go_wp2_with fail
   refine bodyPost_ret (v := .tuple #[.agg #[.slice A5 V.rows.length k5, .slice A6 V.ses.length k6], .agg #[.int .i64 ak, .string aT, .int .i64 aS], .int .i64 0]) (by simp [results, Tryd.results24, go_sem, q0, q1, p0, p1, p2]) rfl ⟨_, _, cs5, by rw [hR.out, HE.out]; rfl, by rw [hR.out]; exact FIN.out.2.1, by rw [hR.out]; exact FIN.out.2.2, FIN.out.1⟩
theorem didof_any (w : World) (r s : Value) (W : Wo) (i : Int) (x : St) (hT : Tabs w) (h : WL w w.heap.size r s W) (hi : (Lit.int .i64 i).wf = true) (hk : x.key.size ≤ maxLen) (hv : x.val.size ≤ maxLen) :
  Calls Tryd.prog 24 #[.agg #[r, s], .int .i64 i, .agg #[.int .i64 x.k, .string x.key, .string x.val]] w (DoP w W i x) := by
 by_cases hE : doE W i x = 0
 ·have h0 : 0 ≤ i := Decidable.byContradiction fun hn => by
   unfold doE at hE
   split at hE
   ·rw [if_neg (fun hh => hn hh.1)] at hE; cases hE
   ·cases hE
  obtain ⟨k, rfl⟩ := Int.eq_ofNat_of_zero_le h0
  exact didof_good w r s W k x hT h hi hk hv hE
 ·exact didof_bad w r s W i x hT h hi hk hv hE
end Go.Proofs.YtjbnfigpflambabDoor
