/- The walk of TopCuts: it returns true. -/
import Derived.Test.YtjbnfigpflambacGreatDoorJ37
import Derived.Test.YtjbnfigpflambacGreatDoorJ39
/- The walk of TopCuts: it returns true. -/
namespace Go.Proofs.YtjbnfigpflambacGreatDoor
open Go.ChangeShapes Go.WideShapes Go.ChangeAt Go.RowKit
theorem acV_two (a b : Ac) : acV [a, b] = [.int .i64 a.kind, .int .i64 a.c, .string a.data, .int .i64 b.kind, .int .i64 b.c, .string b.data] := rfl
theorem wrap_wf (n : Int) : (Lit.int .i64 (wrap64 n)).wf = true := by
 rw [← IntWalk.i64_left]
 exact wf_wrap .i64 _
theorem setup_four (m : Int) : setupE (1 + pick m 3) (4 : Nat) = 0 := by
 have h1 := pick_bd m 3 (by decide)
 unfold setupE
 rw [if_neg (by omega), if_neg (by decide)]
set_option maxHeartbeats 16000000 in
set_option maxRecDepth 100000 in
theorem topCuts_walk (W0 : World) (hT : Tabs W0) (v : Value) (l : List Rw) (hl : RL W0 W0.heap.size v l) (m : Int) (hm : (Lit.int .i64 m).wf = true) (at_ : Int) (hat : (Lit.int .i64 at_).wf = true) :
  Calls Tryz.prog 9 #[v, .int .i64 m, .int .i64 at_] W0 fun e w' => e = .returned (.bool true) ∧ Below W0.heap.size W0 w' := by
 obtain ⟨i0, hi0, hz0, hz1, hz2⟩ := info_parts act_info
 have HT := Lib.hid hT
 have HL := Lib.hid hl
 have HM := Lib.hid hm
 have HAT := Lib.hid hat
 obtain ⟨A, cap, rfl, _⟩ := hl
 have hf := left_fair (acts_fair (most := 40) (m := 4) (by decide) (by decide) l)
 have hle := Nat.le_trans (left_len (actsL 40 4 l)) (acts_len 40 4 l)
 obtain ⟨L, hL⟩ : ∃ L, leftA (actsL 40 4 l) = L := ⟨_, rfl⟩
 rw [hL] at hf hle
 have HLE := Lib.hid hL
 have hs := setup_four m
 have hsame := cuts_same (1 + pick m 3) at_ hf
 obtain ⟨md, hmd⟩ : ∃ md, 1 + pick m 3 = md := ⟨_, rfl⟩
 rw [hmd] at hs hsame
 have hsz : ∀ a ∈ L, a.data.size ≤ 1000 := fun a ha => (hf a ha).1.ok.d
 have HSZ := Lib.hid hsz
 have hcl : (cutAll (cutL at_ 0 L)).length ≤ 80 := by rw [cutAll_len, cutL_len]; omega
 have HC := Lib.hid (cut_ok (l := cutL at_ 0 L) fun p hp => (hf _ (mem_cutL hp)).1.ok)
 have HCL := Lib.hid hcl
 obtain ⟨o, ho⟩ : ∃ o, outM md 4 L = o := ⟨_, rfl⟩
 rw [ho] at hsame
 have HO1 := Lib.hid ho
 have HO2 := Lib.hid hsame
 have HO := Lib.hid (fair_ok (l := L) fun a ha => (hf a ha).1)
 have HLN := Lib.hid hle
 have HMD := Lib.hid hmd
 have HS := Lib.hid hs
 obtain ⟨N, hN⟩ : ∃ N, l.length = N := ⟨_, rfl⟩
 rw [hN] at HL ⊢
 clear hT hf ho hN hm hat hs hsame hmd hle hL hsz hcl
 go_enter Tryz.func9, Tryz.ntmps9
 go_wp2_with fail
 refine (staying_any _ _ l HL.out 40 4 (by decide) (by decide) (by decide) HT.out).mono ?_
 rintro e w1 ⟨r, rfl, own, b1⟩
 rw [HLE.out] at own
 have B1 := Lib.hid b1
 have OA := Lib.hid own
 obtain ⟨Ar, cr, rfl, _⟩ := own.form
 obtain ⟨nL, hnL⟩ : ∃ n, L.length = n := ⟨_, rfl⟩
 have HNL := Lib.hid hnL
 rw [hnL] at OA ⊢
 clear own b1 hnL
 go_upto_region 4 with fail
 go_loopw [8, 21] (fun u i wx => ∃ k : Nat, k ≤ nL ∧ i = .int .i64 k ∧ Below w1.heap.size w1 wx ∧ wx.ownsRow w1.heap.size 54 3 u (2 * k) (acV (cutAll (cutL at_ 0 (L.take k))))) (fun _ i _ => nL - (intOf i).toNat)
 case atStart => exact ⟨0, Nat.zero_le _, rfl, Below.refl _ _, World.ownsRow_nil _ _ _ _⟩
 case round =>
  obtain ⟨k, hk, rfl, hb, ho⟩ := hrel
  have HB := Lib.hid hb
  by_cases hlt : k < nL
  ·have g1 : (k : Int) < (nL : Int) := by omega
   have g2 : (0 : Int) ≤ (k : Int) := by omega
   have hkl : k < L.length := by rw [HNL.out]; exact hlt
   have hk40 : k ≤ 40 := by have := HLN.out; rw [HNL.out] at this; omega
   obtain ⟨g, off, cap', e0, hnc, hc, _⟩ := (OA.out.below hb).pos (by omega)
   injection e0 with e1 e2 e3
   subst e1 e3
   obtain ⟨a0, a1, a2⟩ := acV_at L k hkl
   have hn3 : k * 3 + 2 < nL * 3 := by omega
   have x0 : wr.cell? ⟨g, off + k * 3, none⟩ = some (.int .i64 L[k].kind) := (hc (k * 3) (by omega)).trans a0
   have x1 : wr.cell? ⟨g, off + k * 3 + 1, none⟩ = some (.int .i64 L[k].c) := by rw [Nat.add_assoc]; exact (hc (k * 3 + 1) (by omega)).trans a1
   have x2 : wr.cell? ⟨g, off + k * 3 + 2, none⟩ = some (.string L[k].data) := by rw [Nat.add_assoc]; exact (hc (k * 3 + 2) (by omega)).trans a2
   obtain ⟨a, ha⟩ : ∃ a, L[k] = a := ⟨_, rfl⟩
   have hst := cut_step at_ hkl
   have hsz := HSZ.out L[k] (List.getElem_mem _)
   rw [ha] at x0 x1 x2 hst hsz
   obtain ⟨p1, p2⟩ := kAt_bd (at_ := at_) (i := k) (a := a)
   obtain ⟨kk, hkk⟩ : ∃ kk, kAt at_ k a = kk := ⟨_, rfl⟩
   rw [hkk] at p1 p2 hst
   obtain ⟨ak, ac, ad⟩ := a
   simp only at x0 x1 x2 hst hsz p1 p2
   have HST := Lib.hid hst
   have HP := Lib.hid p1
   obtain ⟨cs, hcs⟩ : ∃ cs, cutAll (cutL at_ 0 (L.take k)) = cs := ⟨_, rfl⟩
   rw [hcs] at HST ho
   have HO9 := Lib.hid ho
   clear ha hst p1 hkk hb hc hcs a0 a1 a2 e2 ho
   go_upto_region 6 with fail
   have bb := boxed wr (.cells #[.int .i64 ak, .int .i64 ac, .string ad] 54)
   have Y := Lib.hid (Blk.new wr 54 #[.int .i64 ak, .int .i64 ac, .string ad])
   have B2 := Lib.hid (below_step HB.out (Nat.le_refl _) bb)
   have O2 := Lib.hid ((Keeps.of_below bb).own HO9.out)
   obtain ⟨z, hz⟩ : ∃ z, wr.heap.size = z := ⟨_, rfl⟩
   rw [hz] at Y ⊢
   generalize World.alloc _ _ = w2 at Y B2 O2 ⊢
   clear bb x0 x1 x2 HB HO9 hz
   have y2 := Y.out.cell_ 2 _ rfl
   have hwf : (Lit.int .i64 (wrap64 (at_ + (k : Int)))).wf = true := wrap_wf _
   go_wp2_with fail
   refine (Picked_any _ _ _ hwf (by omega) (by omega)).mono ?_
   rintro e w3 ⟨rfl, rfl⟩
   rw [HP.out]
   clear hwf y2
   go_upto_region 7 with fail
   have y0 := Y.out.cell_ 0 _ rfl
   have y1 := Y.out.cell_ 1 _ rfl
   have y2 := Y.out.cell_ 2 _ rfl
   have gk0 : (0 : Int) ≤ (kk : Int) := by omega
   have gk1 : (kk : Int) ≤ (ad.size : Int) := by omega
   have hlb := B2.out.size
   refine region_segs [20] (by kernel_rfl) ?_
   refine anyB_seg [0, 1, 2, 3, 4, 5, 6, 7, 8, 9, 10, 11, 12, 13, 14, 15, 16, 17, 18] 3 rfl (by kernel_rfl) (by kernel_rfl) (by kernel_rfl) (fun _ _ d _ _ h => by cases d <;> exact h) ?_
   simp only [pickOps, List.getElem?_toArray, List.getElem?_cons_zero, List.getElem?_cons_succ]
   go_wp2_with fail
   refine ⟨rfl, by rfl, ?_⟩
   have B3 := Lib.hid ((B2.out).drew)
   have O3 := Lib.hid ((Keeps.of_below (Below.refl w2.heap.size w2).drew).own O2.out)
   clear y0 y1 y2 Y B2 O2
   generalize w2.drew = x3 at B3 O3 ⊢
   refine anyB_one (i := 19) (by kernel_rfl) rfl (fun K hK => ?_)
   go_simp
   refine hK.out _ _ (fun _ => (boxed _ _)) ?_
   clear hK K
   have hlb := B3.out.size
   have bb := boxed x3 (.cells #[.int .i64 ak, .int .i64 ac, .string (ad.extract 0 kk), .int .i64 ak, .int .i64 ac, .string (ad.extract kk ad.size)] 54)
   have R4 := Lib.hid (Reads.new_ x3 54 #[.int .i64 ak, .int .i64 ac, .string (ad.extract 0 kk), .int .i64 ak, .int .i64 ac, .string (ad.extract kk ad.size)] (n := 2) (size := 3) rfl)
   have B4 := Lib.hid (below_step B3.out (Nat.le_refl _) bb)
   have O4 := Lib.hid ((Keeps.of_below bb).own O3.out)
   clear bb B3 O3
   refine anyB_one (i := 20) (by kernel_rfl) rfl (fun K hK => ?_)
   rw [if_pos (by rfl)]
   refine wp_append_any _ _ _ _ rfl w1.heap.size 54 i0 _ 3 32 Tryz.underlying24 hi0 hz0 hz1 hz2 rfl (by decide) _ (2 * k) (acV cs) rfl O4.out (x3.heap.size + 1) (some ⟨x3.heap.size, 0, none⟩) 2 2 (acV [⟨ak, ac, ad.extract 0 kk⟩, ⟨ak, ac, ad.extract kk ad.size⟩]) rfl (by rw [acV_two]; exact R4.out) (acV_one _) (by unfold maxLen; omega) (by omega) B4.out.size ?_
   intro v5 x5 ho hg hn
   refine hK.out _ _ (fun h => absurd (by decide) h) ?_
   clear hK K
   refine anyB_seg [21] 0 rfl (by kernel_rfl) (by kernel_rfl) (by kernel_rfl) (fun _ _ d _ _ h => by cases d <;> exact h) ?_
   simp only [pickOps, List.getElem?_toArray, List.getElem?_cons_zero, List.getElem?_cons_succ]
   go_wp2_with fail
   refine ⟨rfl, by rfl, ?_⟩
   refine anyB_done (by kernel_rfl) ?_ _
   have B5 := Lib.hid (B4.out.grown hg B4.out.size fun j hj => own_ge O4.out j hj)
   have O5 := Lib.hid (show x5.ownsRow w1.heap.size 54 3 v5 (2 * (k + 1)) (acV (cutAll (cutL at_ 0 (L.take (k + 1))))) by rw [HST.out, acV_app]; exact ho)
   clear ho hg hn R4 B4 O4
   go_wp2_with fail
   go_roundw
   case rel => exact ⟨k + 1, by omega, by go_num, B5.out, O5.out⟩
   case measure => simp [intOf]; omega
  ·have g1 : (nL : Int) ≤ (k : Int) := by omega
   have hkn : k = nL := by omega
   subst hkn
   rw [← HNL.out, List.take_length] at ho
   have h2L : 2 * L.length = (cutAll (cutL at_ 0 L)).length := by rw [cutAll_len, cutL_len]
   rw [h2L] at ho
   have B2 := Lib.hid (below_step B1.out (Nat.le_refl _) hb)
   have OA2 := Lib.hid (OA.out.below hb)
   have O2 := Lib.hid (ownsRow_base ho B1.out.size)
   obtain ⟨nC, hnC⟩ : ∃ n, (cutAll (cutL at_ 0 L)).length = n := ⟨_, rfl⟩
   have HNC := Lib.hid hnC
   obtain ⟨Ac_, cc, rfl⟩ := own_slice ho
   rw [hnC] at O2 ⊢
   clear hb ho HB hnC h2L OA B1
   go_wp2_with fail
   refine (ksetup_any m 3 _ HM.out (by decide)).mono ?_
   rintro e w2 ⟨rfl, b2⟩
   rw [HMD.out, show 1 + pick 3 4 = ((4 : Nat) : Int) by decide]
   have bb := boxed w2 (.cells #[.int .i64 md, .int .i64 ((4 : Nat) : Int)] 23)
   have B3 := Lib.hid (below_step (below_step B2.out (Nat.le_refl _) b2) (Nat.le_refl _) bb)
   have U3 := Lib.hid (Blk.new w2 23 #[.int .i64 md, .int .i64 ((4 : Nat) : Int)])
   have OA3 := Lib.hid ((OA2.out.below b2).below bb)
   have O3 := Lib.hid ((Keeps.of_below bb).own ((Keeps.of_below b2).own O2.out))
   clear b2 bb B2 OA2 O2
   obtain ⟨qu, hqu⟩ : ∃ q, w2.heap.size = q := ⟨_, rfl⟩
   rw [hqu] at U3
   go_upto_region 10 with fail
   generalize World.alloc _ _ = w3 at B3 U3 OA3 O3 ⊢
   clear hqu
   have u0 := U3.out.cell_ 0 _ rfl
   have u1 := U3.out.cell_ 1 _ rfl
   have h1 : AcL w3 w3.heap.size (.slice Ar k cr) L := owno_acl (by rw [HNL.out]; exact OA3.out)
   go_wp2_with fail
   refine (played_top _ md 4 _ _ HS.out (by decide) (by decide) h1 (by have := HLN.out; omega) HO.out (HT.out.below B3.out)).mono ?_
   rintro e w4 ⟨vs, vd, vr, rfl, h4, b4⟩
   rw [HO1.out] at h4
   have X := Lib.hid (boxO_new h4 b4 B3.out.size)
   have B4 := below_step B3.out (Nat.le_refl _) b4
   have bb := boxed w4 (.cells #[vs, vd, vr] 29)
   have B5 := Lib.hid (below_step B4 (Nat.le_refl _) bb)
   have U5 := Lib.hid ((U3.out.keep b4).keep bb)
   have O5 := Lib.hid ((Keeps.of_below bb).own ((Keeps.of_below b4).own O3.out))
   obtain ⟨A1, c1, A3, c3, A4, c4, rfl, rfl, rfl⟩ := outR_form h4
   clear h4 b4 bb B3 B4 u0 u1 U3 O3 OA3 h1
   obtain ⟨q, hq⟩ : ∃ q, w4.heap.size = q := ⟨_, rfl⟩
   rw [hq] at X
   go_upto_region 11 with fail
   generalize World.alloc _ _ = w5 at X B5 U5 O5 ⊢
   clear hq
   have u0 := U5.out.cell_ 0 _ rfl
   have u1 := U5.out.cell_ 1 _ rfl
   have h1 : AcL w5 w5.heap.size (.slice Ac_ nC cc) (cutAll (cutL at_ 0 L)) := own_acl (by rw [HNC.out]; exact O5.out)
   go_wp2_with fail
   refine (played_top _ md 4 _ _ HS.out (by decide) (by decide) h1 (by have := HCL.out; omega) HC.out (HT.out.below B5.out)).mono ?_
   rintro e w6 ⟨us, ud, ur, rfl, h6, b6⟩
   rw [← HO2.out] at h6
   have Y := Lib.hid (boxO_new h6 b6 B5.out.size)
   have B6 := below_step B5.out (Nat.le_refl _) b6
   have bb := boxed w6 (.cells #[us, ud, ur] 29)
   have B7 := Lib.hid (below_step B6 (Nat.le_refl _) bb)
   have X7 := Lib.hid ((X.out.keep b6).keep bb)
   obtain ⟨D1, e1, D3, e3, D4, e4, rfl, rfl, rfl⟩ := outR_form h6
   clear h6 b6 bb B5 B6 u0 u1 U5 O5 X h1
   obtain ⟨q2, hq⟩ : ∃ q, w6.heap.size = q := ⟨_, rfl⟩
   rw [hq] at Y
   go_upto_region 12 with fail
   generalize World.alloc _ _ = w7 at X7 Y B7 ⊢
   clear hq
   have x0 := X7.out.blk.cell_ 0 _ rfl
   have x1 := X7.out.blk.cell_ 1 _ rfl
   have x2 := X7.out.blk.cell_ 2 _ rfl
   have y0 := Y.out.blk.cell_ 0 _ rfl
   have y1 := Y.out.blk.cell_ 1 _ rfl
   have y2 := Y.out.blk.cell_ 2 _ rfl
   go_wp2_with fail
   refine (same_top w7 W0.heap.size _ _ _ _ _ _ o X7.out.out Y.out.out).mono ?_
   rintro e w8 ⟨rfl, b8⟩
   have B8 := Lib.hid (below_step B7.out (Nat.le_refl _) b8)
   clear b8 x0 x1 x2 y0 y1 y2
   go_wp2_with fail
   go_ret
   exact ⟨rfl, B8.out⟩
end Go.Proofs.YtjbnfigpflambacGreatDoor
