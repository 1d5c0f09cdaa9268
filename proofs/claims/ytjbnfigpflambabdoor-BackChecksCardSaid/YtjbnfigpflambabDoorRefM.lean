/- The reference's pairsMay. -/
import Derived.Test.YtjbnfigpflambabDoorRefA
import Derived.Test.YtjbnfigpflambabDoorPairsB
import Derived.Test.YtjbnfigpflambabDoorStmtOf
import Derived.Test.YtjbnfigpflambabDoorSeg
namespace Go.Proofs.YtjbnfigpflambabDoor
open Go.ChangeShapes Go.WideShapes Go.ChangeAt Go.RowKit

set_option maxHeartbeats 8000000 in
set_option maxRecDepth 100000 in
theorem pmay_any (w : World) (v : Value) (l : List Pr) (most : Nat) (kind : Int) (hT : Tabs w) (h : PL w w.heap.size v l) :
    Calls Tryd.prog 35 #[v, .int .i64 (most : Nat), .int .i64 kind] w fun e w' => e = .returned (.bool (pairsB kind most l)) ∧ Below w.heap.size w w' := by
  obtain ⟨A, c, rfl, hc, hr, hf⟩ := h
  have hl : l.length ≤ 4398046510976 := hf.1
  have HR := Lib.hid hr
  have HF := Lib.hid hf
  have HT := Lib.hid hT
  obtain ⟨n, hN⟩ : ∃ n, l.length = n := ⟨_, rfl⟩
  rw [hN] at hl ⊢
  have HN := Lib.hid hN
  clear hr hf hc hN hT
  go_enter Tryd.func35, Tryd.ntmps35
  go_wp2_with fail
  go_loopw [7] (fun i wx => ∃ k : Nat, k ≤ n ∧ i = .int .i64 k ∧ Hid (∀ j, j < k → pairB kind l j = true) ∧ Below w.heap.size w wx) (fun i _ => n - (intOf i).toNat)
  case atStart => exact ⟨0, Nat.zero_le _, rfl, Lib.hid (fun j hj => absurd hj (Nat.not_lt_zero _)), Below.refl _ _⟩
  case round =>
    obtain ⟨k, hk, rfl, HG, hb⟩ := hrel
    have HB := Lib.hid hb
    by_cases hlt : k < n
    · have g1 : (k : Int) < (n : Int) := by omega
      have g2 : (0 : Int) ≤ (k : Int) := by omega
      have hkl : k < l.length := by rw [HN.out]; exact hlt
      obtain ⟨ad, hA, _, x0, x1⟩ := pair_at (HR.out.below hb) hkl
      subst hA
      have hz := HF.out.2 l[k] (List.getElem_mem _)
      have hgd : l.getD k Pr.no = l[k] := getD_at hkl Pr.no
      obtain ⟨p, hp⟩ : ∃ p, l[k] = p := ⟨_, rfl⟩
      rw [hp] at x0 x1 hz hgd
      obtain ⟨pk, pv⟩ := p
      simp only at x0 x1 hz
      have HGD := Lib.hid hgd
      have HK := Lib.hid hkl
      have HC := Lib.hid (fun (w' : World) (hT : Tabs w') => fault_all ⟨kind, pk, pv⟩ w' hT hz.1 hz.2)
      obtain ⟨E, hE⟩ : ∃ E, checkE ⟨kind, pk, pv⟩ = E := ⟨_, rfl⟩
      have HE := Lib.hid hE
      rw [hE] at HC
      have hx : pairB kind l k = (decide (E = 0) && (decide (k = 0) || ltS (l.getD (k - 1) Pr.no).k pk)) := by unfold pairB; rw [HGD.out, hE]
      have HX := Lib.hid hx
      clear hp hgd hE hx hz hb
      go_upto_region 4 with fail
      refine region_segs [] (by kernel_rfl) ?_
      refine anyB_seg [0, 1, 2, 3, 4, 5, 6, 7, 8, 9, 10, 11] 2 rfl (by kernel_rfl) (by kernel_rfl) (by kernel_rfl) (fun _ _ d _ _ h => by cases d <;> exact h) ?_
      simp only [pickOps, List.getElem?_toArray, List.getElem?_cons_zero, List.getElem?_cons_succ]
      go_wp2_with fail
      refine ⟨rfl, by rfl, ?_⟩
      have B1 := Lib.hid HB.out.drew
      clear x0 x1 HB
      generalize wr.drew = x2 at B1 ⊢
      refine anyB_one (i := 12) (by kernel_rfl) rfl (fun K hK => ?_)
      go_simp
      refine (HC.out _ (HT.out.below B1.out)).mono ?_
      rintro e x3 ⟨rfl, b⟩
      refine hK.out _ _ (fun _ => b) ?_
      clear hK K
      refine anyB_seg [13] 0 rfl (by kernel_rfl) (by kernel_rfl) (by kernel_rfl) (fun _ _ d _ _ h => by cases d <;> exact h) ?_
      simp only [pickOps, List.getElem?_toArray, List.getElem?_cons_zero, List.getElem?_cons_succ]
      go_wp2_with fail
      refine ⟨rfl, by rfl, ?_⟩
      refine anyB_done (by kernel_rfl) ?_ _
      have B3 := Lib.hid (below_step B1.out (Nat.le_refl _) b)
      clear b B1 HC
      by_cases hE0 : E = 0
      · have e1 : (E != 0) = false := by simp [hE0]
        subst hE0
        by_cases hk0 : k = 0
        · subst hk0
          have HXX := Lib.hid (show pairB kind l 0 = true by rw [HX.out]; rfl)
          go_upto_region 6 with fail
          refine region_segs [] (by kernel_rfl) ?_
          refine anyB_seg [0, 1, 2, 3, 4, 5, 6, 7, 8, 9, 10, 11, 12, 13, 14, 15] 0 rfl (by kernel_rfl) (by kernel_rfl) (by kernel_rfl) (fun _ _ d _ _ h => by cases d <;> exact h) ?_
          simp only [pickOps, List.getElem?_toArray, List.getElem?_cons_zero, List.getElem?_cons_succ]
          go_wp2_with fail
          refine ⟨rfl, by rfl, ?_⟩
          refine anyB_done (by kernel_rfl) ?_ _
          have B4 := Lib.hid B3.out.drew
          go_wp2_with fail
          go_roundw
          case rel => exact ⟨1, by omega, by go_num, Lib.hid (fun j hj => (show 0 = j by omega) ▸ HXX.out), B4.out⟩
          case measure => simp [intOf]; omega
        · have hkm : k - 1 < l.length := by have := HK.out; omega
          obtain ⟨ad2, hA2, _, d1, -⟩ := pair_at (HR.out.below B3.out) hkm
          obtain rfl : ad = ad2 := by simpa using hA2
          obtain ⟨ad3, hA3, _, y0, -⟩ := pair_at (HR.out.below B3.out) HK.out
          obtain rfl : ad = ad3 := by simpa using hA3
          have hpk : l[k]'HK.out = ⟨pk, pv⟩ := by rw [← HGD.out, getD_at HK.out]
          have hgm : (l.getD (k - 1) Pr.no).k = l[k - 1].k := by rw [getD_at hkm]
          rw [hpk] at y0
          obtain ⟨q, hq⟩ : ∃ q, l[k - 1].k = q := ⟨_, rfl⟩
          rw [hq] at d1 hgm
          have hx2 := HX.out
          rw [hgm] at hx2
          have g3 : (0 : Int) < (k : Int) := by omega
          have g4 : (0 : Int) ≤ (k : Int) - 1 := by omega
          have g5 : (k : Int) - 1 < (n : Int) := by omega
          have g6 : ((k : Int) - 1).toNat = k - 1 := by omega
          have g7 : (1 : Int) ≤ (k : Int) := by omega
          have g8 : wrap64 ((k : Int) - 1) = (k : Int) - 1 := IntWalk.wrap64_in _ (by omega)
          have hk0' : decide (k = 0) = false := by simpa using hk0
          rw [hk0'] at hx2
          have HX2 := Lib.hid hx2
          have HK0 := Lib.hid hk0
          clear hA2 hA3 hpk hgm hq hx2 hk0' hkm
          cases hlt2 : ltS q pk with
          | true =>
            have e2 : Op.bytesLess pk.toList q.toList = false := ltS_asymm hlt2
            have e3 : (pk.toList == q.toList) = false := ref_str_no fun e => ltS_ne hlt2 e.symm
            have HXX := Lib.hid (show pairB kind l k = true by rw [HX2.out, hlt2]; rfl)
            clear hlt2
            go_upto_region 6 with fail
            refine region_segs [] (by kernel_rfl) ?_
            refine anyB_seg [0, 1, 2, 3, 4, 5, 6, 7, 8, 9, 10, 11, 12, 13, 14, 15] 0 rfl (by kernel_rfl) (by kernel_rfl) (by kernel_rfl) (fun _ _ d _ _ h => by cases d <;> exact h) ?_
            simp only [pickOps, List.getElem?_toArray, List.getElem?_cons_zero, List.getElem?_cons_succ]
            go_wp2_with fail
            refine ⟨rfl, by rfl, ?_⟩
            refine anyB_done (by kernel_rfl) ?_ _
            have B4 := Lib.hid B3.out.drew
            clear y0 d1
            go_wp2_with fail
            go_roundw
            case rel => exact ⟨k + 1, by omega, by go_num, Lib.hid (fun j hj => (Nat.lt_succ_iff_lt_or_eq.1 hj).elim (fun h => HG.out j h) (fun h => h ▸ HXX.out)), B4.out⟩
            case measure => simp [intOf]; omega
          | false =>
            have HXX := Lib.hid (show pairsB kind most l = false from pairsB_no HK.out (by rw [HX2.out, hlt2]; rfl))
            cases hlt3 : ltS pk q with
            | true =>
              have e2 : Op.bytesLess pk.toList q.toList = true := hlt3
              clear hlt2 hlt3
              go_upto_region 6 with fail
              refine region_segs [] (by kernel_rfl) ?_
              refine anyB_seg [0, 1, 2, 3, 4, 5, 6, 7, 8, 9, 10, 11, 12, 13, 14, 15] 0 rfl (by kernel_rfl) (by kernel_rfl) (by kernel_rfl) (fun _ _ d _ _ h => by cases d <;> exact h) ?_
              simp only [pickOps, List.getElem?_toArray, List.getElem?_cons_zero, List.getElem?_cons_succ]
              go_wp2_with fail
              refine ⟨rfl, by rfl, ?_⟩
              refine anyB_done (by kernel_rfl) ?_ _
              have B4 := Lib.hid B3.out.drew
              clear y0 d1
              go_wp2_with fail
              go_ret
              exact ⟨by rw [HXX.out]; rfl, B4.out⟩
            | false =>
              obtain rfl := ltS_total hlt2 hlt3
              clear hlt2 hlt3
              go_upto_region 6 with fail
              refine region_segs [] (by kernel_rfl) ?_
              refine anyB_seg [0, 1, 2, 3, 4, 5, 6, 7, 8, 9, 10, 11, 12, 13, 14, 15] 0 rfl (by kernel_rfl) (by kernel_rfl) (by kernel_rfl) (fun _ _ d _ _ h => by cases d <;> exact h) ?_
              simp only [pickOps, List.getElem?_toArray, List.getElem?_cons_zero, List.getElem?_cons_succ]
              go_wp2_with fail
              refine ⟨rfl, by rfl, ?_⟩
              refine anyB_done (by kernel_rfl) ?_ _
              have B4 := Lib.hid B3.out.drew
              clear y0 d1
              go_wp2_with fail
              go_ret
              exact ⟨by rw [HXX.out]; rfl, B4.out⟩
      · have e1 : (E != 0) = true := by simp [hE0]
        have e1' : ¬ E = 0 := hE0
        have HXX := Lib.hid (show pairsB kind most l = false from pairsB_no HK.out (by rw [HX.out]; simp [hE0]))
        go_wp2_with fail
        go_ret
        exact ⟨by rw [HXX.out]; rfl, B3.out⟩
    · have g1 : (n : Int) ≤ (k : Int) := by omega
      have HXX := Lib.hid (show pairsB kind most l = decide (n ≤ most) by rw [pairsB_yes fun i hi => HG.out i (by rw [HN.out] at hi; omega), HN.out])
      clear hb
      by_cases hm : n ≤ most
      · have g3 : (n : Int) ≤ (most : Int) := by omega
        have HY := Lib.hid (show pairsB kind most l = true by rw [HXX.out]; simpa using hm)
        go_wp2_with fail
        go_ret
        exact ⟨by rw [HY.out]; rfl, HB.out⟩
      · have g3 : ¬ (n : Int) ≤ (most : Int) := by omega
        have g4 : (most : Int) < (n : Int) := by omega
        have HY := Lib.hid (show pairsB kind most l = false by rw [HXX.out]; simpa using hm)
        go_wp2_with fail
        go_ret
        exact ⟨by rw [HY.out]; rfl, HB.out⟩
end Go.Proofs.YtjbnfigpflambabDoor
